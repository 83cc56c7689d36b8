/- Chapter 41 in plain Lean: after corrections the sum of all versions is the newest invoice: 'InvoiceBalances', 'InvoiceCorrects'. -/
import Derived.Test.YtimcphncaffenaaPureG
namespace Go.Proofs.Ytimcphncaffenaa
open Go Go.Vc

abbrev prts (l : List api_Line) : List Int := l.map (fun z => z.fPort)
theorem prts_cons (x : api_Line) (r : List api_Line) : prts (x :: r) = x.fPort :: prts r := rfl
theorem val_self : ∀ {l : List api_Line}, portsUp l → ∀ x ∈ l, valF l x.fPort = (x.fUsed, x.fAmount)
  | [], _, x, hx => by simp at hx
  | y :: r, hu, x, hx => by
    rcases List.mem_cons.1 hx with rfl | hx
    · rw [valF, if_pos rfl]
    · have := up_head hu x hx
      rw [valF, if_neg (by omega)]
      exact val_self (up_tail hu) x hx
theorem val_out {l : List api_Line} {p : Int} (h : p ∉ prts l) : valF l p = (0, 0) := valF_out fun z hz e => h (List.mem_map.2 ⟨z, hz, e⟩)
theorem val_in {l : List api_Line} {p : Int} (h : p ∈ prts l) (hu : portsUp l) {P : Int × Int → Prop} (hP : ∀ x ∈ l, P (x.fUsed, x.fAmount)) : P (valF l p) := by
  obtain ⟨x, hx, rfl⟩ := List.mem_map.1 h
  rw [val_self hu x hx]
  exact hP x hx
theorem addAll_up (sg : Int) : ∀ {ls a : List api_Line}, portsUp a → portsUp (addAll a ls sg)
  | [], _, h => h
  | x :: r, a, h => addAll_up sg (ls := r) (a := AddF x sg a) (addF_up h)
theorem addAll_mem (sg : Int) {p : Int} : ∀ {ls a : List api_Line}, p ∈ prts (addAll a ls sg) ↔ p ∈ prts a ∨ p ∈ prts ls
  | [], a => by unfold addAll; simp
  | x :: r, a => by
    have := addAll_mem sg (p := p) (ls := r) (a := AddF x sg a)
    show p ∈ prts (addAll (AddF x sg a) r sg) ↔ _
    rw [this, addF_mem, prts_cons, List.mem_cons]
    constructor
    · rintro ((h | h) | h)
      · exact .inr (.inl h)
      · exact .inl h
      · exact .inr (.inr h)
    · rintro (h | h | h)
      · exact .inl (.inr h)
      · exact .inl (.inl h)
      · exact .inr h
theorem addAll_val (sg : Int) (p : Int) : ∀ {ls a : List api_Line}, portsUp a → portsUp ls → valF (addAll a ls sg) p = if p ∈ prts ls then (w64 ((valF a p).1 + w64 (sg * (valF ls p).1)), w64 ((valF a p).2 + w64 (sg * (valF ls p).2))) else valF a p
  | [], a, _, _ => by unfold addAll; simp
  | x :: r, a, ha, hl => by
    have ih := addAll_val sg p (ls := r) (a := AddF x sg a) (addF_up ha) (up_tail hl)
    show valF (addAll (AddF x sg a) r sg) p = _
    rw [ih, addF_val ha]
    by_cases hp : p = x.fPort
    · have hr : p ∉ prts r := fun h => by
        obtain ⟨w, hw, e⟩ := List.mem_map.1 h
        have := up_head hl w hw
        omega
      rw [if_neg hr, if_pos hp, if_pos (by rw [prts_cons]; exact List.mem_cons.2 (.inl hp))]
      have e : valF (x :: r) p = (x.fUsed, x.fAmount) := by rw [valF, if_pos hp.symm]
      rw [e]
    · have e : valF (x :: r) p = valF r p := by rw [valF, if_neg (fun e => hp e.symm)]
      rw [if_neg hp, e]
      by_cases hr : p ∈ prts r
      · rw [if_pos hr, if_pos (by rw [prts_cons]; exact List.mem_cons_of_mem _ hr)]
      · rw [if_neg hr, if_neg (by rw [prts_cons]; intro h; rcases List.mem_cons.1 h with h | h; exact hp h; exact hr h)]
theorem filter_up {l : List api_Line} (h : portsUp l) : portsUp (l.filter nz) := by
  unfold portsUp at h ⊢
  exact h.sublist ((List.filter_sublist (p := nz)).map _)
theorem val_filter (p : Int) : ∀ {l : List api_Line}, portsUp l → valF (l.filter nz) p = valF l p
  | [], _ => rfl
  | y :: r, hu => by
    have ih := val_filter p (up_tail hu)
    by_cases hy : nz y = true
    · rw [List.filter_cons, if_pos hy]
      by_cases hp : y.fPort = p
      · rw [valF, if_pos hp, valF, if_pos hp]
      · have e1 : valF (y :: r.filter nz) p = valF (r.filter nz) p := by rw [valF, if_neg hp]
        have e2 : valF (y :: r) p = valF r p := by rw [valF, if_neg hp]
        rw [e1, e2, ih]
    · rw [List.filter_cons, if_neg hy, ih]
      by_cases hp : y.fPort = p
      · have e2 : valF (y :: r) p = (y.fUsed, y.fAmount) := by rw [valF, if_pos hp]
        have hz : y.fUsed = 0 ∧ y.fAmount = 0 := by
          unfold nz at hy
          simpa using hy
        rw [e2, hz.1, hz.2]
        exact valF_out fun z hz => by have := up_head hu z hz; omega
      · have e2 : valF (y :: r) p = valF r p := by rw [valF, if_neg hp]
        rw [e2]

/-- lines of one member at two times -/
structure Two (xs ys : List api_Line) : Prop where
  ux : portsUp xs
  uy : portsUp ys
  same : prts xs = prts ys
  ox : ∀ x ∈ xs, lineOk x
  oy : ∀ x ∈ ys, lineOk x
theorem Two.val {xs ys : List api_Line} (h : Two xs ys) (p : Int) : (0 ≤ (valF xs p).1 ∧ (valF xs p).1 ≤ 1099511627776) ∧ (0 ≤ (valF xs p).2 ∧ (valF xs p).2 ≤ 1125899906842624) ∧ (0 ≤ (valF ys p).1 ∧ (valF ys p).1 ≤ 1099511627776) ∧ (0 ≤ (valF ys p).2 ∧ (valF ys p).2 ≤ 1125899906842624) := by
  by_cases hp : p ∈ prts xs
  · have h1 := val_in hp h.ux (P := fun v => (0 ≤ v.1 ∧ v.1 ≤ 1099511627776) ∧ (0 ≤ v.2 ∧ v.2 ≤ 1125899906842624)) (fun x hx => h.ox x hx)
    have h2 := val_in (h.same ▸ hp) h.uy (P := fun v => (0 ≤ v.1 ∧ v.1 ≤ 1099511627776) ∧ (0 ≤ v.2 ∧ v.2 ≤ 1125899906842624)) (fun x hx => h.oy x hx)
    exact ⟨h1.1, h1.2, h2.1, h2.2⟩
  · rw [val_out hp, val_out (h.same ▸ hp)]
    simp
theorem Two.diff {xs ys : List api_Line} (h : Two xs ys) (p : Int) : valF (addAll ys xs (-1)) p = ((valF ys p).1 - (valF xs p).1, (valF ys p).2 - (valF xs p).2) := by
  obtain ⟨a, b, c, d⟩ := h.val p
  rw [addAll_val (-1) p h.uy h.ux]
  by_cases hp : p ∈ prts xs
  · rw [if_pos hp, w64_add_r, w64_add_r, w64_id (by omega) (by omega), w64_id (by omega) (by omega)]
    refine Prod.ext ?_ ?_
    · simp only; omega
    · simp only; omega
  · rw [if_neg hp, val_out hp]
    simp
theorem Two.refl {xs ys : List api_Line} (h : Two xs ys) : Two ys ys := ⟨h.uy, h.uy, rfl, h.oy, h.oy⟩
theorem Two.back {xs ys : List api_Line} (h : Two xs ys) : addAll xs (DiffL ys xs) 1 = ys := by
  have hD : portsUp (addAll ys xs (-1)) := addAll_up (-1) h.uy
  have hF : portsUp (DiffL ys xs) := filter_up hD
  have hsub : ∀ p, p ∈ prts (DiffL ys xs) → p ∈ prts xs := fun p hp => by
    obtain ⟨z, hz, rfl⟩ := List.mem_map.1 hp
    have h1 : z.fPort ∈ prts (addAll ys xs (-1)) := List.mem_map_of_mem (f := fun z : api_Line => z.fPort) (List.mem_filter.1 hz).1
    rcases (addAll_mem (-1)).1 h1 with h2 | h2
    · rw [h.same]; exact h2
    · exact h2
  have hu : portsUp (addAll xs (DiffL ys xs) 1) := addAll_up 1 h.ux
  have hports : prts (addAll xs (DiffL ys xs) 1) = prts ys := by
    refine sorted_unique (r := (· < ·)) (fun x y h1 h2 => by omega) hu h.uy fun p => ?_
    rw [addAll_mem, ← h.same]
    exact ⟨fun h1 => h1.elim id (hsub p), .inl⟩
  refine val_ext hu h.uy hports fun p _ => ?_
  rw [addAll_val 1 p h.ux hF]
  have hv : valF (DiffL ys xs) p = ((valF ys p).1 - (valF xs p).1, (valF ys p).2 - (valF xs p).2) := by
    unfold DiffL; rw [val_filter p hD, h.diff p]
  obtain ⟨a, b, c, d⟩ := h.val p
  by_cases hp : p ∈ prts (DiffL ys xs)
  · rw [if_pos hp, hv, w64_add_r, w64_add_r, w64_id (by simp only; omega) (by simp only; omega), w64_id (by simp only; omega) (by simp only; omega)]
    refine Prod.ext ?_ ?_
    · simp only; omega
    · simp only; omega
  · rw [if_neg hp]
    rw [val_out hp] at hv
    have h1 := congrArg Prod.fst hv
    have h2 := congrArg Prod.snd hv
    simp only at h1 h2
    refine Prod.ext ?_ ?_ <;> omega
theorem Two.none {xs ys : List api_Line} (h : Two xs ys) : DiffL ys ys = [] := by
  have h := h.refl
  have hD : portsUp (addAll ys ys (-1)) := addAll_up (-1) h.uy
  unfold DiffL
  rw [List.filter_eq_nil_iff]
  intro x hx
  have h1 := val_self hD x hx
  rw [h.diff] at h1
  have h2 := congrArg Prod.fst h1
  have h3 := congrArg Prod.snd h1
  simp only [Int.sub_self] at h2 h3
  unfold nz
  simp [← h2, ← h3]

theorem put_full {s : api_Series} (f : Full s) {k : Nat} (hk : k ≤ s.fIn.length) {x y : Int} (hx : 0 ≤ x ∧ x < 1099511627776) (hy : 0 ≤ y ∧ y < 1099511627776) (h39 : s.fIn.length ≤ 39) :
    ∃ s', PutF s k x y = (s', 0) ∧ Full s' ∧ s'.fPort = s.fPort ∧ s'.fIn.length ≤ s.fIn.length + 1 := by
  have v := f.ok
  have l1 := v.len
  have l2 := f.two
  have hp1 : ∀ (l : List Int) (v : Int), k ≤ l.length → (put1 l k v).length = if k = l.length then l.length + 1 else l.length := fun l v _ => by
    unfold put1; split <;> simp
  have v' : VOk ⟨s.fPort, s.fSeconds, put1 s.fIn k x, put1 s.fOut k y⟩ := by
    refine ⟨v.port, v.sec, ?_, ?_, ?_⟩
    · simp only; rw [hp1 _ _ hk, hp1 _ _ (by omega), l1]
    · simp only; rw [hp1 _ _ hk]; split <;> omega
    · simp only
      by_cases he : k = s.fIn.length
      · have e1 : put1 s.fIn k x = s.fIn ++ [x] := by unfold put1; rw [if_pos he]
        have e2 : put1 s.fOut k y = s.fOut ++ [y] := by unfold put1; rw [if_pos (by omega)]
        rw [e1, e2]
        exact pr_snoc l1 v.all (by unfold pr bin; omega)
      · have e1 : put1 s.fIn k x = s.fIn.set k x := by unfold put1; rw [if_neg he]
        have e2 : put1 s.fOut k y = s.fOut.set k y := by unfold put1; rw [if_neg (by omega)]
        rw [e1, e2]
        intro i h1 h2
        rw [List.getElem_set, List.getElem_set]
        rw [List.length_set] at h1 h2
        split
        · unfold pr bin; omega
        · exact v.all i h1 h2
  refine ⟨⟨s.fPort, s.fSeconds, put1 s.fIn k x, put1 s.fOut k y⟩, ?_, ⟨v', ?_, ?_, ?_⟩, rfl, ?_⟩
  · unfold PutF
    rw [if_pos v, if_neg (by omega), Int.toNat_natCast, if_pos v']
  · simp only; rw [hp1 _ _ hk]; split <;> omega
  · simp only; rw [hp1 _ _ hk]; split <;> omega
  · refine ⟨by simp only; rw [hp1 _ _ hk]; split <;> omega, ?_⟩
    obtain ⟨h0, h1⟩ := f.recd
    simp only
    unfold put1
    by_cases he : k = s.fIn.length
    · simp only [if_pos he]
      rw [List.getElem_append_left h0]
      exact h1
    · simp only [if_neg he]
      rw [List.getElem_set]
      split
      · exact hx.1
      · exact h1
  · simp only; rw [hp1 _ _ hk]; split <;> omega

theorem bills_set {m : api_Member} {t : api_Tariff} {l : List api_Series} (b : Bills m t l) {i : Nat} (hi : i < l.length) {s : api_Series} (hs : Full s) (hp : s.fPort = l[i].fPort) : Bills m t (l.set i s) := by
  refine ⟨b.asn, b.ports, b.some, b.few, b.base, b.incl, b.rate, ?_, fun x hx => ?_⟩
  · rw [← b.ids, List.map_set, hp]
    refine List.ext_getElem (by simp) fun j h1 h2 => ?_
    rw [List.getElem_set]
    split
    · rename_i e; subst e; simp
    · rfl
  · rcases List.mem_or_eq_of_mem_set hx with h | h
    · exact b.full x h
    · rw [h]; exact hs
theorem lineOk.mny {x : api_Line} (h : lineOk x) : mny x.fUsed ∧ mny x.fAmount := by
  obtain ⟨⟨_, _⟩, _, _⟩ := h
  exact ⟨⟨by omega, by omega⟩, by omega, by omega⟩
/-- what is kept of all versions -/
structure Kept (m : api_Member) (t : api_Tariff) (l : List api_Series) (all : List api_Invoice) (xs : List api_Line) : Prop where
  made : Made m 3 t l xs
  cons : ∀ v ∈ all, ConsP v
  ord : OrdP all
  pos : 0 < all.length
  few : all.length ≤ 10
  mem : (hd all).fMember = m.fASN
  mon : (hd all).fMonth = 3
  sum : SumL all = xs
section
variable {m : api_Member} {t : api_Tariff} {l : List api_Series} {all : List api_Invoice} {xs : List api_Line}
theorem Kept.consV (k : Kept m t l all xs) : ConsP (SumV all) := by
  obtain ⟨u1, u2, u3, u4, u5⟩ := k.made.up
  have hp := k.pos; have hf := k.few
  refine ⟨?_, ?_, ?_, ?_, ?_, ?_, rfl⟩
  · show asnOk (hd all).fMember; rw [k.mem]; exact k.made.asn
  · show monOk (hd all).fMonth; rw [k.mon]; unfold monOk; omega
  · show 1 ≤ (all.length : Int) ∧ (all.length : Int) ≤ 1000; omega
  · show (SumL all).length ≤ 8; rw [k.sum]; omega
  · show ∀ x ∈ SumL all, rowOk x
    rw [k.sum]
    exact fun x hx => ⟨u5 x hx, (u4 x hx).mny⟩
  · show portsUp (SumL all); rw [k.sum]; exact u1
theorem Kept.sumF (k : Kept m t l all xs) : SumF all = (⟨m.fASN, 3, (all.length : Int), xs, totF xs⟩, 0) := by
  have hp := k.pos; have hf := k.few
  unfold SumF
  rw [if_neg (by omega), if_neg (Classical.not_not.2 k.cons), if_neg (Classical.not_not.2 k.ord), if_pos k.consV]
  unfold SumV
  rw [k.mem, k.mon, k.sum]
theorem made_two {l' : List api_Series} {ys : List api_Line} (a : Made m 3 t l xs) (b : Made m 3 t l' ys) : Two xs ys :=
  ⟨a.up.1, b.up.1, (lines_ports a.lines).trans (lines_ports b.lines).symm, a.up.2.2.2.1, b.up.2.2.2.1⟩
/-- a correction -/
theorem Kept.correct (k : Kept m t l all xs) {l' : List api_Series} {ys : List api_Line} (d : Made m 3 t l' ys) :
    CorrectF all m t l' = (zi, 3) ∨ (CorrectF all m t l' = (zi, 7) ∧ Kept m t l' all ys) ∨ (∃ w, CorrectF all m t l' = (w, 0) ∧ (all.length ≤ 9 → Kept m t l' (all ++ [w]) ys)) := by
  have T := made_two k.made d
  unfold CorrectF
  rw [k.sumF]
  simp only
  rw [if_neg (by simp), if_neg (by simp), d.eq, if_neg (by simp)]
  by_cases h0 : (DiffL ys xs).length = 0
  · rw [if_pos h0]
    have e : DiffL ys xs = [] := List.length_eq_zero_iff.1 h0
    have hb := T.back
    rw [e] at hb
    exact .inr (.inl ⟨rfl, ⟨d, k.cons, k.ord, k.pos, k.few, k.mem, k.mon, k.sum.trans hb⟩⟩)
  · rw [if_neg h0]
    by_cases hc : ConsP (CorV ⟨m.fASN, 3, (all.length : Int), xs, totF xs⟩ (DiffL ys xs))
    · rw [if_pos hc]
      have hp := k.pos; have hf := k.few
      have hhd : ∀ w : api_Invoice, hd (all ++ [w]) = hd all := fun w => by
        unfold hd; rw [List.getElem?_append_left hp]
      refine .inr (.inr ⟨_, rfl, fun h9 => ⟨d, ?_, ?_, by simp, by simp only [List.length_append, List.length_cons, List.length_nil]; omega, by rw [hhd]; exact k.mem, by rw [hhd]; exact k.mon, ?_⟩⟩)
      · intro v hv
        rcases List.mem_append.1 hv with hv | hv
        · exact k.cons v hv
        · rw [List.mem_singleton.1 hv]; exact hc
      · intro i hi
        unfold OrdAt
        rw [hhd]
        by_cases he : i < all.length
        · rw [List.getElem_append_left he]; exact k.ord i he
        · have : i = all.length := by simp only [List.length_append, List.length_cons, List.length_nil] at hi; omega
          subst this
          rw [List.getElem_append_right (Nat.le_refl _)]
          simp only [Nat.sub_self, List.getElem_cons_zero]
          refine ⟨?_, k.mem.symm, k.mon.symm⟩
          show w64 ((all.length : Int) + 1) = _
          rw [w64_id (by omega) (by omega)]
      · rw [sumL_snoc, k.sum]; exact T.back
    · rw [if_neg hc]; exact .inl rfl
theorem Kept.again (k : Kept m t l all xs) : CorrectF all m t l = (zi, 7) := by
  have T := made_two k.made k.made
  unfold CorrectF
  rw [k.sumF]
  simp only
  rw [if_neg (by simp), if_neg (by simp), k.made.eq, if_neg (by simp), if_pos (by rw [T.none]; rfl)]
end

theorem lines_same (a b : api_Invoice × Int) (h : a.1.fLines = b.1.fLines) (hl : a.1.fLines.length ≤ 1000000) : Tot (loop (exchangepointlaw41_InvoiceBalances_L1 a b) (0 : Int)) (fun x => x = .inr ()) := by
  refine Tot.rng a.1.fLines.length (fun k (_ : Unit) => (k : Int)) (fun _ _ => True) _ () rfl trivial ?_ ?_
  · intro k _ hk _
    unfold exchangepointlaw41_InvoiceBalances_L1
    refine Tot.iteT (decide_eq_true (by omega)) ?_
    rw [← h]
    exact Tot.bindIdx k rfl hk (Tot.bindIdx k rfl hk (Tot.iteF (by simp) (Tot.step () (cast_succ_w hk (by omega)) trivial)))
  · intro _ _
    unfold exchangepointlaw41_InvoiceBalances_L1
    exact Tot.iteF (decide_eq_false (by omega)) (Tot.last rfl)

theorem balances_law (a0 : List Int) (h0 : (∀ y ∈ a0, I64 y) ∧ a0.length ≤ maxLen) (a1 : Int) {p1 : Prop} (_ : p1) : exchangepointlaw41_InvoiceBalances a0 a1 = some true := by
  refine Tot.eq ?_
  unfold exchangepointlaw41_InvoiceBalances
  refine Tot.bindOf rfl (Tot.bindT (bills_tot _ (new_ok _ (Nat.le_trans h0.2 (by decide)))) ?_)
  rintro ⟨m, t, l, d⟩ ⟨b, h31, hd⟩
  simp only at b h31 hd ⊢
  refine Tot.bindOf (make_eq _ _ _ (by have := b.few; omega) b.sers) ?_
  rcases bills_make b (mo := 3) (by unfold monOk; omega) with h3 | ⟨xs, hL, hM⟩
  · refine Tot.iteT (by rw [h3]; rfl) (Tot.jnR (fun c : Bool => c = true) (fun j hj => ?_) (fun c hc => Tot.some hc))
    exact Tot.iteT (by rw [h3]; rfl) (Tot.bindOf awake_eq (hj _ rfl))
  · rw [hM]
    have hn := emod_lt' a1 (show (0 : Int) < 5 by omega)
    refine Tot.iteF rfl (Tot.bindOf (mod_eq _ _ (by omega) (by omega)) ?_)
    generalize a1 % 5 = n at hn
    have hasn : asnOk m.fASN := by rw [b.asn]; unfold asnOk; omega
    have made : Made m 3 t l xs := ⟨hM, b.ports, hasn, by unfold monOk; omega, hL⟩
    have k0 : Kept m t l [⟨m.fASN, 3, 1, xs, totF xs⟩] xs := by
      obtain ⟨u1, u2, u3, u4, u5⟩ := made.up
      refine ⟨made, fun v hv => ?_, fun i hi => ?_, by simp, by simp, rfl, rfl, ?_⟩
      · rw [List.mem_singleton.1 hv]
        exact ⟨hasn, by unfold monOk; simp, by simp, by simp only; omega, fun x hx => ⟨u5 x hx, (u4 x hx).mny⟩, u1, rfl⟩
      · simp only [List.length_cons, List.length_nil] at hi
        have : i = 0 := by omega
        subst this
        exact ⟨rfl, rfl, rfl⟩
      · unfold SumL
        exact made.self
    refine Tot.bindLoop (fun s : List api_Series × Int × List api_Invoice × exchangepointmill_Deck => Bills m t s.1 ∧ (0 ≤ s.2.1 ∧ s.2.1 ≤ 4) ∧ (∀ x ∈ s.1, x.fIn.length + s.2.1 ≤ 38) ∧ ((s.2.2.1.length : Int) + s.2.1 ≤ 8) ∧ (∃ xs, Kept m t s.1 s.2.2.1 xs) ∧ DeckOk s.2.2.2) (fun s => s.2.1.toNat)
      (fun x => match x with | .inl b => b = true | .inr _ => True) ⟨b, by simp only; omega, fun x hx => by have := h31 x hx; simp only; omega, by simp only [List.length_cons, List.length_nil]; omega, ⟨xs, k0⟩, hd⟩ ?_ ?_
    · rintro ⟨l, n, all, dO⟩ ⟨b, ⟨hn1, hn2⟩, hsm, hal, ⟨xs, k⟩, hdO⟩
      simp only at b hn1 hn2 hsm hal k hdO
      unfold exchangepointlaw41_InvoiceBalances_L0
      refine Tot.ite (fun c => ?_) (fun _ => Tot.out trivial)
      have hn0 : 0 < n := of_decide_eq_true c
      have hlen := b.len; have hsome := b.some; have hfew := b.few
      refine Tot.bindT (next_tot dO hdO _ (show (0 : Int) < (l.length : Int) by omega) (show (l.length : Int) ≤ 4611686018427387904 by omega)) ?_
      rintro ⟨i, d⟩ ⟨i1, i2, hd⟩
      simp only at i1 i2 hd ⊢
      obtain ⟨i, rfl⟩ : ∃ q : Nat, i = (q : Int) := ⟨i.toNat, by omega⟩
      have hi : i < l.length := by omega
      have hf := b.full _ (List.getElem_mem hi)
      have hs := hsm _ (List.getElem_mem hi)
      refine Tot.bindIdx i rfl hi (Tot.bindIdx i rfl hi ?_)
      rw [w64_id (n := (l[i].fIn.length : Int) + 1) (by omega) (by omega)]
      refine Tot.bindT (next_tot d hd _ (show (0 : Int) < (l[i].fIn.length : Int) + 1 by omega) (show (l[i].fIn.length : Int) + 1 ≤ 4611686018427387904 by omega)) ?_
      rintro ⟨q, dq⟩ ⟨q1, q2, hdq⟩
      refine Tot.bindT (next_tot dq hdq _ (by omega) (by omega)) ?_
      rintro ⟨x, dx⟩ ⟨x1, x2, hdx⟩
      refine Tot.bindT (next_tot dx hdx _ (by omega) (by omega)) ?_
      rintro ⟨y, dy⟩ ⟨y1, y2, hdy⟩
      simp only at q1 q2 x1 x2 y1 y2 ⊢
      obtain ⟨q, rfl⟩ : ∃ r : Nat, q = (r : Int) := ⟨q.toNat, by omega⟩
      obtain ⟨s', e, f', hp, hl'⟩ := put_full hf (k := q) (by omega) ⟨x1, x2⟩ ⟨y1, y2⟩ (by omega)
      refine Tot.bindOf ((put_ref _ (by omega) _ _ _).trans (congrArg some e)) (Tot.iteF rfl (Tot.chk (limB (by omega)) (Tot.bindIdx i rfl hi (Tot.bindIdx i rfl hi ?_))))
      simp only [Int.toNat_natCast, List.drop_zero]
      have hcut : (l.set i s').take l.length = l.set i s' := List.take_of_length_le (by rw [List.length_set]; omega)
      rw [hcut]
      have b' : Bills m t (l.set i s') := bills_set b hi f' hp
      have hsm' : ∀ x ∈ l.set i s', x.fIn.length + (n - 1) ≤ 38 := fun x hx => by
        rcases List.mem_or_eq_of_mem_set hx with h | h
        · have := hsm x h; omega
        · rw [h]; omega
      have hports : m.fPorts.length ≤ 1000000 := by omega
      refine Tot.bindOf (correct_2_eq _ _ _ hports b'.sers) ?_
      rcases bills_make b' (mo := 3) (by unfold monOk; omega) with h3 | ⟨ys, hL', hM'⟩
      · have e3 : (CorrectF all m t (l.set i s')).2 = 3 := by
          unfold CorrectF
          rw [k.sumF]
          simp only
          rw [if_neg (by simp), if_neg (by simp), h3, if_pos (by simp)]
        refine Tot.iteT (by rw [e3]; rfl) (Tot.bindOf awake_eq (Tot.out rfl))
      · have made' : Made m 3 t (l.set i s') ys := ⟨hM', b.ports, k.made.asn, by unfold monOk; omega, hL'⟩
        have hrest : ∀ all' : List api_Invoice, Kept m t (l.set i s') all' ys → (all'.length : Int) + (n - 1) ≤ 8 →
            Tot ((invoice_Sum_2 all').bind fun r123 => (invoice_Make m (3 : Int) t (l.set i s')).bind fun r124 => (invoice_Correct_2 all' m t (l.set i s')).bind fun r125 =>
              (if ((((((r123.2 != (0 : Int)) || (r124.2 != (0 : Int))) || (r125.2 != (7 : Int))) || (r123.1.fTotal != r124.1.fTotal)) || ((r123.1.fLines.length : Int) != (r124.1.fLines.length : Int))) || (r123.1.fVersion != (all'.length : Int))) = true then some (.inl (.inl false)) else
              (loop (exchangepointlaw41_InvoiceBalances_L1 r123 r124) (0 : Int)).bind fun x142 => match x142 with | (.inl _) => some (.inl (.inl false)) | (.inr _) => some (.inr (l.set i s', w64 (n - (1 : Int)), all', dy))))
              (Rnd (fun s : List api_Series × Int × List api_Invoice × exchangepointmill_Deck => Bills m t s.1 ∧ (0 ≤ s.2.1 ∧ s.2.1 ≤ 4) ∧ (∀ x ∈ s.1, x.fIn.length + s.2.1 ≤ 38) ∧ ((s.2.2.1.length : Int) + s.2.1 ≤ 8) ∧ (∃ xs, Kept m t s.1 s.2.2.1 xs) ∧ DeckOk s.2.2.2) (fun s => s.2.1.toNat)
                (fun x : Bool ⊕ Unit => match x with | .inl b => b = true | .inr _ => True) (l, n, all, dO)) := by
          intro all' k' hal'
          refine Tot.bindOf ((sum_2_eq all').trans (congrArg some k'.sumF)) (Tot.bindOf ((make_eq _ _ _ hports b'.sers).trans (congrArg some hM')) (Tot.bindOf ((correct_2_eq _ _ _ hports b'.sers).trans (congrArg some k'.again)) (Tot.iteF (by simp) ?_)))
          refine Tot.bindT (lines_same _ _ rfl (by have := k'.made.up.2.2.1; simp only; omega)) ?_
          rintro _ rfl
          rw [w64_id (n := n - 1) (by omega) (by omega)]
          exact Tot.next ⟨b', ⟨by simp only; omega, by simp only; omega⟩, hsm', hal', ⟨ys, k'⟩, hdy⟩ (by simp only; omega)
        rcases k.correct made' with e3 | ⟨e7, k'⟩ | ⟨w, e0, k'⟩
        · rw [e3]
          exact Tot.iteT rfl (Tot.bindOf awake_eq (Tot.out rfl))
        · rw [e7]
          refine Tot.iteF rfl (Tot.iteF rfl (Tot.jn (Tot.iteF rfl ?_)))
          exact hrest all k' (by omega)
        · rw [e0]
          refine Tot.iteF rfl (Tot.iteF rfl (Tot.jn (Tot.iteT rfl (Tot.chk (limB (by simp only [List.length_append, List.length_cons, List.length_nil]; omega)) ?_))))
          exact hrest _ (k' (by omega)) (by simp only [List.length_append, List.length_cons, List.length_nil]; omega)
    · rintro (b | u) hx
      · obtain rfl := hx; exact Tot.some rfl
      · exact Tot.bindOf awake_eq (Tot.some rfl)
end Go.Proofs.Ytimcphncaffenaa
