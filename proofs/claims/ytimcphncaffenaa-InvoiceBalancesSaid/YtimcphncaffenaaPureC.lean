/- Chapter 41 in plain Lean: what an invoice is, both ways; the deck's bills. -/
import Derived.Test.YtimcphncaffenaaPureB
import Derived.Test.YtimcphncaffenaaVcO
namespace Go.Proofs.Ytimcphncaffenaa
open Go Go.Vc

/-- the line of a port, or the error -/
noncomputable def LineF (t : api_Tariff) (l : List api_Series) (p : Int) : Int ⊕ api_Line :=
  match l.find? (fun s => s.fPort == p) with
  | none => .inl 7
  | some s => if (UsedF s 95).2 ≠ 0 then .inl (UsedF s 95).2 else if (PriceF t (UsedF s 95).1).2 ≠ 0 then .inl (PriceF t (UsedF s 95).1).2 else .inr ⟨p, (UsedF s 95).1, (PriceF t (UsedF s 95).1).1⟩
noncomputable def LinesF (t : api_Tariff) (l : List api_Series) : List Int → Int ⊕ List api_Line
  | [] => .inr []
  | p :: ps => match LineF t l p with
    | .inl e => .inl e
    | .inr x => match LinesF t l ps with
      | .inl e => .inl e
      | .inr xs => .inr (x :: xs)
theorem lines_snoc {t : api_Tariff} {l : List api_Series} {p : Int} {x : api_Line} (hx : LineF t l p = .inr x) : ∀ {ps : List Int} {xs : List api_Line}, LinesF t l ps = .inr xs → LinesF t l (ps ++ [p]) = .inr (xs ++ [x])
  | [], xs, h => by
    simp only [LinesF] at h
    cases h
    simp only [List.nil_append, LinesF, hx]
  | q :: qs, xs, h => by
    simp only [LinesF, List.cons_append] at h ⊢
    cases hq : LineF t l q with
    | inl e => rw [hq] at h; cases h
    | inr y =>
      rw [hq] at h
      simp only at h ⊢
      cases hr : LinesF t l qs with
      | inl e => rw [hr] at h; cases h
      | inr ys =>
        rw [hr] at h
        simp only at h
        cases h
        rw [lines_snoc hx hr]
        rfl
theorem lines_err {t : api_Tariff} {l : List api_Series} {p : Int} {e : Int} (hx : LineF t l p = .inl e) {r : List Int} : ∀ {ps : List Int} {xs : List api_Line}, LinesF t l ps = .inr xs → LinesF t l (ps ++ p :: r) = .inl e
  | [], xs, h => by simp only [List.nil_append, LinesF, hx]
  | q :: qs, xs, h => by
    simp only [LinesF, List.cons_append] at h ⊢
    cases hq : LineF t l q with
    | inl e => rw [hq] at h; cases h
    | inr y =>
      rw [hq] at h
      simp only at h ⊢
      cases hr : LinesF t l qs with
      | inl e => rw [hr] at h; cases h
      | inr ys => rw [lines_err hx hr]
theorem line_port {t : api_Tariff} {l : List api_Series} {p : Int} {x : api_Line} (hx : LineF t l p = .inr x) : x.fPort = p := by
  unfold LineF at hx
  split at hx
  · cases hx
  · split at hx
    · cases hx
    · split at hx
      · cases hx
      · cases hx; rfl
theorem lines_ports {t : api_Tariff} {l : List api_Series} : ∀ {ps : List Int} {xs : List api_Line}, LinesF t l ps = .inr xs → xs.map (fun x => x.fPort) = ps
  | [], xs, h => by simp only [LinesF] at h; cases h; rfl
  | q :: qs, xs, h => by
    simp only [LinesF] at h
    cases hq : LineF t l q with
    | inl e => rw [hq] at h; cases h
    | inr y =>
      rw [hq] at h
      simp only at h
      cases hr : LinesF t l qs with
      | inl e => rw [hr] at h; cases h
      | inr ys =>
        rw [hr] at h
        simp only at h
        cases h
        rw [List.map_cons, lines_ports hr, line_port hq]

theorem first_find {l : List api_Series} {p : Int} {k : Nat} (h : First l p k) : l.find? (fun s => s.fPort == p) = l[k]? := by
  obtain ⟨h1, h2, h3⟩ := h
  by_cases hk : k < l.length
  · rw [List.getElem?_eq_getElem hk, List.find?_eq_some_iff_getElem]
    refine ⟨by simpa using h3 hk, k, hk, rfl, fun j hj => ?_⟩
    have := h2 j (by omega) hj
    simpa using this
  · rw [List.getElem?_eq_none (by omega), List.find?_eq_none]
    intro x hx
    obtain ⟨i, hi, rfl⟩ := List.getElem_of_mem hx
    have := h2 i hi (by omega)
    simpa using this

def totF (l : List api_Line) : Int := l.foldl (fun a x => w64 (a + x.fAmount)) 0
theorem totF_snoc (l : List api_Line) (x : api_Line) : totF (l ++ [x]) = w64 (totF l + x.fAmount) := by unfold totF; rw [List.foldl_append]; rfl
abbrev zi : api_Invoice := ⟨0, 0, 0, [], 0⟩
def asnOk (n : Int) : Prop := 1 ≤ n ∧ n ≤ 4294967295
def monOk (n : Int) : Prop := 1 ≤ n ∧ n ≤ 100000
open Classical in
noncomputable def MakeF (m : api_Member) (mo : Int) (t : api_Tariff) (l : List api_Series) : api_Invoice × Int :=
  if ¬ (POk m ∧ asnOk m.fASN ∧ monOk mo) then (zi, 1) else if ¬ TOk t then (zi, 38) else match LinesF t l (srt (IDs m)) with
    | .inl e => (zi, e)
    | .inr xs => (⟨m.fASN, mo, 1, xs, totF xs⟩, 0)

theorem total_eq (l : List api_Line) (hl : l.length ≤ 1000000) (a b c : Int) : invoice_sums_invoice l a b c = some (⟨a, b, c, l, totF l⟩, ⟨l⟩) := by
  refine Tot.eq ?_
  unfold invoice_sums_invoice
  refine Tot.bindRng l.length (fun k (b : Int) => ((k : Int), b)) (fun k b => b = totF (l.take k)) (fun x => x = totF l) 0 rfl rfl ?_ ?_ ?_
  · rintro k _ hk rfl
    unfold invoice_sums_invoice_L0
    refine Tot.iteT (decide_eq_true (by simp only; omega)) (Tot.bindIdx k rfl hk (Tot.bindIdx k rfl hk ?_))
    exact Tot.step _ (Prod.ext (cast_succ_w hk (by omega)) rfl) (by rw [take_snoc hk, totF_snoc])
  · rintro _ rfl
    unfold invoice_sums_invoice_L0
    refine Tot.iteF (decide_eq_false (by simp only; omega)) (Tot.last (by simp only [List.take_length]))
  · rintro _ rfl
    exact Tot.some rfl
theorem total2_eq (l : List api_Line) (hl : l.length ≤ 1000000) (a b c : Int) : invoice_sums_invoice_2 l a b c = some (⟨a, b, c, l, totF l⟩, ⟨l⟩) := by
  refine Tot.eq ?_
  unfold invoice_sums_invoice_2
  refine Tot.bindRng l.length (fun k (b : Int) => ((k : Int), b)) (fun k b => b = totF (l.take k)) (fun x => x = totF l) 0 rfl rfl ?_ ?_ ?_
  · rintro k _ hk rfl
    unfold invoice_sums_invoice_2_L0
    refine Tot.iteT (decide_eq_true (by simp only; omega)) (Tot.bindIdx k rfl hk ?_)
    exact Tot.step _ (Prod.ext (cast_succ_w hk (by omega)) rfl) (by rw [take_snoc hk, totF_snoc])
  · rintro _ rfl
    unfold invoice_sums_invoice_2_L0
    refine Tot.iteF (decide_eq_false (by simp only; omega)) (Tot.last (by simp only [List.take_length]))
  · rintro _ rfl
    exact Tot.some rfl

theorem member_eq (n : Int) : invoice_member n = some (decide (1 ≤ n) && decide (n ≤ 4294967295)) := rfl
theorem month_eq (n : Int) : invoice_month n = some (decide (1 ≤ n) && decide (n ≤ 100000)) := rfl

/-- values of 64 bits -/
def lineI (x : api_Line) : Prop := (-9223372036854775808 ≤ x.fUsed ∧ x.fUsed ≤ 9223372036854775807) ∧ (-9223372036854775808 ≤ x.fAmount ∧ x.fAmount ≤ 9223372036854775807)
/-- a line behind all others -/
theorem add_end {l : List api_Line} {x : api_Line} (hl : l.length ≤ 100000) (hs : portsUp (l ++ [x])) (hi : portsIn (l ++ [x])) (hx : lineI x) :
    invoice_sums_add_2 l x 1 = some ⟨l ++ [x]⟩ := by
  have hs' : portsUp l := by unfold portsUp at hs ⊢; rw [List.map_append, List.pairwise_append] at hs; exact hs.1
  obtain ⟨k, hk, hr, e⟩ := add_one (x := x) 1 hl hs' (fun y hy => hi y (List.mem_append_left _ hy)) (hi x (List.mem_append_right _ (List.mem_singleton.2 rfl)))
  have hlt : ∀ y ∈ l, y.fPort < x.fPort := fun y hy => by
    unfold portsUp at hs
    rw [List.map_append, List.pairwise_append] at hs
    exact hs.2.2 _ (List.mem_map_of_mem (f := fun z : api_Line => z.fPort) hy) _ (by simp)
  have hkl : k = l.length := by
    rcases Nat.lt_or_ge k l.length with h | h
    · have h1 := hk.2.2 k h (Nat.le_refl _)
      have h2 := hlt _ (List.getElem_mem h)
      omega
    · have := hk.1; omega
  subst hkl
  have hroom : roomF l x.fPort l.length = l ++ [⟨x.fPort, 0, 0⟩] := by
    unfold roomF
    rw [List.getElem?_eq_none (Nat.le_refl _)]
    simp
  rw [e]
  congr 2
  simp only [hroom]
  rw [List.set_append_right _ _ (Nat.le_refl _)]
  obtain ⟨⟨a1, a2⟩, b1, b2⟩ := hx
  simp only [Nat.sub_self, List.set_cons_zero, upLine, Int.one_mul, w64_zero_add]
  rw [List.getElem_append_right (Nat.le_refl _)]
  simp only [Nat.sub_self, List.getElem_cons_zero, w64_zero_add]
  rw [w64_id a1 a2, w64_id b1 b2]

def lineOk (x : api_Line) : Prop := (0 ≤ x.fUsed ∧ x.fUsed ≤ 1099511627776) ∧ (0 ≤ x.fAmount ∧ x.fAmount ≤ 1125899906842624)
theorem price_ok {t : api_Tariff} {u : Int} (h : (PriceF t u).2 = 0) : TOk t ∧ (0 ≤ u ∧ u ≤ 1099511627776) ∧ (PriceF t u).1 = PriceN t u ∧ 0 ≤ PriceN t u ∧ PriceN t u ≤ 1125899906842624 := by
  unfold PriceF at h ⊢
  by_cases ht : TOk t
  · rw [if_neg (by simpa using ht)] at h ⊢
    by_cases hu : u < 0 ∨ 1099511627776 < u
    · rw [if_pos hu] at h; cases h
    · rw [if_neg hu] at h ⊢
      by_cases hn : 1125899906842624 < PriceN t u
      · rw [if_pos hn] at h; cases h
      · rw [if_neg hn]
        exact ⟨ht, by omega, rfl, (price_w ht hu).2.1, by omega⟩
  · rw [if_pos (by simpa using ht)] at h; cases h
theorem line_ok {t : api_Tariff} {l : List api_Series} {p : Int} {x : api_Line} (hx : LineF t l p = .inr x) : lineOk x := by
  unfold LineF at hx
  split at hx
  · cases hx
  · split at hx
    · cases hx
    · split at hx
      · cases hx
      · rename_i h
        cases hx
        have := price_ok (by simpa using h)
        obtain ⟨_, h1, h2, h3, h4⟩ := this
        exact ⟨h1, by simp only [h2]; exact ⟨h3, h4⟩⟩
theorem lineOk.toI {x : api_Line} (h : lineOk x) : lineI x := by
  obtain ⟨⟨_, _⟩, _, _⟩ := h
  exact ⟨⟨by omega, by omega⟩, by omega, by omega⟩
theorem lines_all {t : api_Tariff} {l : List api_Series} : ∀ {ps : List Int} {xs : List api_Line}, LinesF t l ps = .inr xs → ∀ x ∈ xs, lineOk x
  | [], xs, h => by simp only [LinesF] at h; cases h; simp
  | q :: qs, xs, h => by
    simp only [LinesF] at h
    cases hq : LineF t l q with
    | inl e => rw [hq] at h; cases h
    | inr y =>
      rw [hq] at h
      simp only at h
      cases hr : LinesF t l qs with
      | inl e => rw [hr] at h; cases h
      | inr ys =>
        rw [hr] at h
        simp only at h
        cases h
        intro x hx
        rcases List.mem_cons.1 hx with rfl | hx
        · exact line_ok hq
        · exact lines_all hr x hx

theorem srt_up {l : List Int} (h : l.Nodup) : (srt l).Pairwise (· < ·) := apart_lt (srt_sorted l) ((srt_apart l).2 h)
/-- what is known of lines for ports -/
theorem lines_up {t : api_Tariff} {l : List api_Series} {m : api_Member} (hp : POk m) {k : Nat} {xs : List api_Line} (h : LinesF t l ((srt (IDs m)).take k) = .inr xs) :
    portsUp xs ∧ portsIn xs ∧ xs.length ≤ 4 ∧ (∀ x ∈ xs, lineOk x) ∧ (∀ x ∈ xs, idOk x.fPort) := by
  have hm := lines_ports h
  have h4 : xs.length ≤ 4 := by
    have e : xs.length = ((srt (IDs m)).take k).length := by rw [← hm, List.length_map]
    have := hp.2.2
    rw [List.length_take, srt_len] at e
    omega
  have hin : ∀ x ∈ xs, idOk x.fPort := fun x hx => by
    have : x.fPort ∈ (srt (IDs m)).take k := by rw [← hm]; exact List.mem_map_of_mem (f := fun z : api_Line => z.fPort) hx
    exact hp.1 _ ((srt_perm _).mem_iff.1 (List.mem_of_mem_take this))
  refine ⟨?_, fun x hx => ?_, h4, lines_all h, hin⟩
  · unfold portsUp
    rw [hm]
    exact (srt_up hp.2.1).sublist (List.take_sublist _ _)
  · have := hin x hx
    unfold idOk at this; omega

def SersOk (l : List api_Series) : Prop := l.length ≤ 1000000 ∧ ∀ s ∈ l, s.fIn.length ≤ 1000000

theorem make_loop {t : api_Tariff} {l : List api_Series} {m : api_Member} (hl : SersOk l) (hp : POk m) (b : Bool) : Tot (loop (invoice_Make_L0 t l (srt (IDs m), b)) ((0 : Int), ([] : List api_Line))) (fun x => x = LinesF t l (srt (IDs m))) := by
  have hlen : (srt (IDs m)).length ≤ 4 := by rw [srt_len]; exact hp.2.2
  refine Tot.rng (srt (IDs m)).length (fun k (b : List api_Line) => ((k : Int), b)) (fun k b => LinesF t l ((srt (IDs m)).take k) = .inr b) (fun x => x = LinesF t l (srt (IDs m))) [] rfl rfl ?_ ?_
  · intro k xs hk hxs
    unfold invoice_Make_L0
    simp only
    refine Tot.iteT (decide_eq_true (by omega)) (Tot.bindIdx k rfl hk (Tot.bindT (index_eq hl.1) ?_))
    rintro _ ⟨q, hq, rfl⟩
    have hf := first_find hq
    have hall : srt (IDs m) = (srt (IDs m)).take k ++ (srt (IDs m))[k] :: (srt (IDs m)).drop (k + 1) := by
      rw [← List.drop_eq_getElem_cons hk, List.take_append_drop]
    by_cases hql : q < l.length
    · rw [if_pos hql]
      rw [List.getElem?_eq_getElem hql] at hf
      refine Tot.iteF (decide_eq_false (by omega)) (Tot.bindIdx q rfl hql (Tot.bindOf (used_eq _ (hl.2 _ (List.getElem_mem hql)) 95) ?_))
      refine Tot.ite (fun hc => Tot.stop ?_) (fun hc => ?_)
      · have hc := bne_iff_ne.1 hc
        rw [hall, lines_err _ hxs]
        unfold LineF
        rw [hf]
        simp only
        rw [if_pos hc]
      · have hc : (UsedF l[q] 95).2 = 0 := by simpa using hc
        refine Tot.bindOf (price_eq _ _) (Tot.ite (fun hd => Tot.stop ?_) (fun hd => ?_))
        · have hd := bne_iff_ne.1 hd
          rw [hall, lines_err _ hxs]
          unfold LineF
          rw [hf]
          simp only
          rw [if_neg (by simpa using hc), if_pos hd]
        · have hd : (PriceF t (UsedF l[q] 95).1).2 = 0 := by simpa using hd
          have hline : LineF t l (srt (IDs m))[k] = .inr ⟨(srt (IDs m))[k], (UsedF l[q] 95).1, (PriceF t (UsedF l[q] 95).1).1⟩ := by
            unfold LineF
            rw [hf]
            simp only
            rw [if_neg (by simpa using hc), if_neg (by simpa using hd)]
          have hnew : LinesF t l ((srt (IDs m)).take (k + 1)) = .inr (xs ++ [⟨(srt (IDs m))[k], (UsedF l[q] 95).1, (PriceF t (UsedF l[q] 95).1).1⟩]) := by
            rw [take_snoc hk]; exact lines_snoc hline hxs
          obtain ⟨u1, u2, u3, u4, _⟩ := lines_up hp hnew
          have u5 := u4 _ (List.mem_append_right _ (List.mem_singleton.2 rfl))
          refine Tot.bindOf (add_end (by simp only [List.length_append] at u3; omega) u1 u2 u5.toI) ?_
          exact Tot.step _ (Prod.ext (cast_succ_w hk (by omega)) rfl) hnew
    · rw [if_neg hql]
      rw [List.getElem?_eq_none (by omega)] at hf
      refine Tot.iteT rfl (Tot.stop ?_)
      rw [hall, lines_err _ hxs]
      unfold LineF
      rw [hf]
  · intro xs hxs
    unfold invoice_Make_L0
    refine Tot.iteF (decide_eq_false (by simp only; omega)) (Tot.last ?_)
    rw [List.take_length] at hxs
    exact hxs.symm

theorem make_eq (m : api_Member) (mo : Int) (t : api_Tariff) {l : List api_Series} (hm : m.fPorts.length ≤ 1000000) (hl : SersOk l) : invoice_Make m mo t l = some (MakeF m mo t l) := by
  refine Tot.eq ?_
  unfold invoice_Make
  refine Tot.bindT (ports_eq m hm) ?_
  rintro ⟨ids, b⟩ ⟨hb, hids⟩
  refine Tot.jnR (fun c : Bool => c = true ↔ ¬ (POk m ∧ asnOk m.fASN ∧ monOk mo)) (fun j hj => ?_) ?_
  · refine Tot.ite (fun hc => hj _ ?_) (fun hc => ?_)
    · simp only [true_iff]
      intro h
      simp only at hb hc
      rw [hb.2 h.1] at hc
      cases hc
    · have hp : POk m := hb.1 (by simpa using hc)
      rw [member_eq, Option.bind_some]
      refine Tot.ite (fun hd => hj _ ?_) (fun hd => ?_)
      · simp only [true_iff]
        intro h
        have := h.2.1
        unfold asnOk at this
        simp only [Bool.not_eq_true', Bool.and_eq_false_iff, decide_eq_false_iff_not] at hd
        omega
      · rw [month_eq, Option.bind_some]
        refine hj _ ?_
        simp only [Bool.not_eq_false', Bool.and_eq_true, decide_eq_true_eq] at hd
        simp only [Bool.not_eq_true', Bool.and_eq_false_iff, decide_eq_false_iff_not]
        unfold asnOk monOk
        constructor
        · intro h1 h2; omega
        · intro h1
          rcases Int.lt_or_le mo 1 with h | h
          · left; omega
          · right; intro h2; exact h1 ⟨hp, by omega, by omega⟩
  · intro c hc
    unfold MakeF
    refine Tot.ite (fun hct => ?_) (fun hcf => ?_)
    · rw [if_pos (hc.1 hct)]; exact Tot.some rfl
    · have hok : POk m ∧ asnOk m.fASN ∧ monOk mo := by
        have := mt hc.2 (by rw [hcf]; simp)
        exact Classical.not_not.1 this
      rw [if_neg (by simpa using hok), tariff_eq, Option.bind_some]
      refine Tot.ite (fun hd => ?_) (fun hd => ?_)
      · rw [if_pos (by simpa using hd)]; exact Tot.some rfl
      · rw [if_neg (by simpa using hd)]
        have hbt := hb.2 hok.1
        simp only at hids
        rw [hids hbt]
        refine Tot.bindT (make_loop hl hok.1 _) ?_
        rintro _ rfl
        cases hL : LinesF t l (srt (IDs m)) with
        | inl e => exact Tot.some rfl
        | inr xs =>
          simp only
          have h4 := (lines_up (k := (srt (IDs m)).length) hok.1 (by rw [List.take_length]; exact hL)).2.2.1
          exact Tot.bindOf (total_eq xs (by omega) _ _ _) (Tot.some rfl)

theorem make_loop_ref {t : api_Tariff} {l : List api_Series} {m : api_Member} (hl : SersOk l) (hp : POk m) (b : Bool) :
    Tot (loop (exchangepointref41_Make_L0 t l (srt (IDs m), b)) ((0 : Int), (0 : Int), ([] : List api_Line))) (fun x => match LinesF t l (srt (IDs m)) with | .inl e => x = .inl e | .inr xs => x = .inr (totF xs, xs)) := by
  have hlen : (srt (IDs m)).length ≤ 4 := by rw [srt_len]; exact hp.2.2
  refine Tot.rng (srt (IDs m)).length (fun k (b : List api_Line) => ((k : Int), totF b, b)) (fun k b => LinesF t l ((srt (IDs m)).take k) = .inr b) _ [] rfl rfl ?_ ?_
  · intro k xs hk hxs
    unfold exchangepointref41_Make_L0
    simp only
    refine Tot.iteT (decide_eq_true (by omega)) (Tot.bindIdx k rfl hk (Tot.bindT (index_ref hl.1) ?_))
    rintro _ ⟨q, hq, rfl⟩
    have hf := first_find hq
    have hall : srt (IDs m) = (srt (IDs m)).take k ++ (srt (IDs m))[k] :: (srt (IDs m)).drop (k + 1) := by
      rw [← List.drop_eq_getElem_cons hk, List.take_append_drop]
    by_cases hql : q < l.length
    · rw [List.getElem?_eq_getElem hql] at hf
      refine Tot.iteF (by simp; omega) (Tot.bindIdx q rfl hql (Tot.bindOf (used_ref _ (hl.2 _ (List.getElem_mem hql)) 95) ?_))
      refine Tot.ite (fun hc => Tot.stop ?_) (fun hc => ?_)
      · have hc := bne_iff_ne.1 hc
        have he : LinesF t l (srt (IDs m)) = .inl (UsedF l[q] 95).2 := by
          rw [hall, lines_err _ hxs]
          unfold LineF
          rw [hf]
          simp only
          rw [if_pos hc]
        rw [he]
      · have hc : (UsedF l[q] 95).2 = 0 := by simpa using hc
        refine Tot.bindOf (price_ref _ _) (Tot.ite (fun hd => Tot.stop ?_) (fun hd => ?_))
        · have hd := bne_iff_ne.1 hd
          have he : LinesF t l (srt (IDs m)) = .inl (PriceF t (UsedF l[q] 95).1).2 := by
            rw [hall, lines_err _ hxs]
            unfold LineF
            rw [hf]
            simp only
            rw [if_neg (by simpa using hc), if_pos hd]
          rw [he]
        · have hd : (PriceF t (UsedF l[q] 95).1).2 = 0 := by simpa using hd
          have hline : LineF t l (srt (IDs m))[k] = .inr ⟨(srt (IDs m))[k], (UsedF l[q] 95).1, (PriceF t (UsedF l[q] 95).1).1⟩ := by
            unfold LineF
            rw [hf]
            simp only
            rw [if_neg (by simpa using hc), if_neg (by simpa using hd)]
          have hnew : LinesF t l ((srt (IDs m)).take (k + 1)) = .inr (xs ++ [⟨(srt (IDs m))[k], (UsedF l[q] 95).1, (PriceF t (UsedF l[q] 95).1).1⟩]) := by
            rw [take_snoc hk]; exact lines_snoc hline hxs
          obtain ⟨_, _, u3, _, _⟩ := lines_up hp hnew
          refine Tot.chk (limB (Nat.le_trans u3 (by omega))) ?_
          exact Tot.step _ (by rw [totF_snoc]; exact Prod.ext (cast_succ_w hk (by omega)) rfl) hnew
    · rw [List.getElem?_eq_none (by omega)] at hf
      have hql : q = l.length := by have := hq.1; omega
      refine Tot.iteT (by simp [hql]) (Tot.stop ?_)
      have he : LinesF t l (srt (IDs m)) = .inl 7 := by
        rw [hall, lines_err _ hxs]
        unfold LineF
        rw [hf]
      rw [he]
  · intro xs hxs
    unfold exchangepointref41_Make_L0
    refine Tot.iteF (decide_eq_false (by simp only; omega)) (Tot.last ?_)
    rw [List.take_length] at hxs
    rw [hxs]

theorem make_ref (m : api_Member) (mo : Int) (t : api_Tariff) {l : List api_Series} (hm : m.fPorts.length ≤ 1000000) (hl : SersOk l) : exchangepointref41_Make m mo t l = some (MakeF m mo t l) := by
  refine Tot.eq ?_
  unfold exchangepointref41_Make
  refine Tot.bindT (ports_ref m hm) ?_
  rintro ⟨ids, b⟩ ⟨hb, hids⟩
  unfold MakeF
  simp only at hb hids ⊢
  refine Tot.ite (fun hc => ?_) (fun hc => ?_)
  · rw [if_pos]
    · exact Tot.some rfl
    · intro h
      obtain ⟨h1, h2, h3⟩ := h
      rw [hb.2 h1] at hc
      unfold asnOk at h2; unfold monOk at h3
      simp only [Bool.or_eq_true, decide_eq_true_eq, Bool.not_true] at hc
      simp at hc
      omega
  · have hok : POk m ∧ asnOk m.fASN ∧ monOk mo := by
      simp only [Bool.or_eq_false_iff, decide_eq_false_iff_not, Bool.not_eq_false'] at hc
      unfold asnOk monOk
      exact ⟨hb.1 hc.2, by omega, by omega⟩
    rw [if_neg (by simpa using hok), tvalid_eq, Option.bind_some]
    refine Tot.ite (fun hd => ?_) (fun hd => ?_)
    · rw [if_pos (by simpa using hd)]; exact Tot.some rfl
    · rw [if_neg (by simpa using hd)]
      rw [hids (hb.2 hok.1)]
      refine Tot.bindT (make_loop_ref hl hok.1 _) ?_
      intro x hx
      cases hL : LinesF t l (srt (IDs m)) with
      | inl e => rw [hL] at hx; subst hx; exact Tot.some rfl
      | inr xs => rw [hL] at hx; subst hx; exact Tot.some rfl

theorem same_refl (a : api_Invoice) (hl : a.fLines.length ≤ 1000000) : exchangepointref41_Same a a = some true := by
  refine Tot.eq ?_
  unfold exchangepointref41_Same
  refine Tot.iteF (by simp) ?_
  refine Tot.bindRng a.fLines.length (fun k (_ : Unit) => (k : Int)) (fun _ _ => True) (fun x => x = .inr ()) () rfl trivial ?_ ?_ ?_
  · intro k _ hk _
    unfold exchangepointref41_Same_L0
    refine Tot.iteT (decide_eq_true (by omega)) (Tot.bindIdx k rfl hk (Tot.bindIdx k rfl hk (Tot.iteF (by simp) (Tot.step () (cast_succ_w hk (by omega)) trivial))))
  · intro _ _
    unfold exchangepointref41_Same_L0
    exact Tot.iteF (decide_eq_false (by omega)) (Tot.last rfl)
  · rintro _ rfl
    exact Tot.some rfl

theorem makeF_small (m : api_Member) (mo : Int) (t : api_Tariff) (l : List api_Series) : (MakeF m mo t l).1.fLines.length ≤ 4 := by
  unfold MakeF
  split
  · simp
  · rename_i h
    split
    · simp
    · have h := Classical.not_not.1 h
      split
      · simp
      · rename_i xs hL
        exact (lines_up (k := (srt (IDs m)).length) h.1 (by rw [List.take_length]; exact hL)).2.2.1

-- the example
theorem srt_one (x : Int) : srt [x] = [x] := srt_uniq (List.Perm.refl _) (by simp)
theorem used_ex : UsedF ⟨3, 1, [0], [0]⟩ 95 = (0, 0) := by
  have v : VOk ⟨3, 1, [0], [0]⟩ := ⟨by simp, by simp, rfl, by simp, fun i h h' => by
    simp only [List.length_cons, List.length_nil] at h
    have : i = 0 := by omega
    subst this
    unfold pr bin; simp⟩
  have e1 : rts [0] 1 = [0] := by
    unfold rts rec'
    have : rt 0 1 = 0 := by decide
    simp [this]
  have e2 : PctF [0] 95 = (0, 0) := by
    unfold PctF
    rw [if_pos (by simp), if_neg (by simp), srt_one]
    rfl
  unfold UsedF
  rw [if_pos v]
  simp only [e1, e2]
  rfl
theorem awake_eq : exchangepointlaw41_awake = some true := by
  unfold exchangepointlaw41_awake
  rw [price_eq, Option.bind_some, make_eq _ _ _ (by simp) ⟨by simp, by simp⟩, Option.bind_some]
  have t : TOk ⟨50000, 100, 20⟩ := by unfold TOk; simp
  have e1 : PriceF ⟨50000, 100, 20⟩ 130 = (50600, 0) := by decide
  have e2 : PriceF ⟨50000, 100, 20⟩ 0 = (50000, 0) := by decide
  have hL : LinesF ⟨50000, 100, 20⟩ [⟨3, 1, [0], [0]⟩] [3] = .inr [⟨3, 0, 50000⟩] := by
    have : LineF ⟨50000, 100, 20⟩ [⟨3, 1, [0], [0]⟩] 3 = .inr ⟨3, 0, 50000⟩ := by
      unfold LineF
      simp only [List.find?, beq_self_eq_true, used_ex, e2]
      rfl
    unfold LinesF
    rw [this]
    simp only [LinesF]
  have e3 : MakeF ⟨5, [], [], 0, 0, [⟨3, 0, 0, [], ⟨false, 0, 0⟩, ⟨false, 0, 0⟩⟩]⟩ 1 ⟨50000, 100, 20⟩ [⟨3, 1, [0], [0]⟩] = (⟨5, 1, 1, [⟨3, 0, 50000⟩], 50000⟩, 0) := by
    unfold MakeF
    have hids : IDs ⟨5, [], [], 0, 0, [⟨3, 0, 0, [], ⟨false, 0, 0⟩, ⟨false, 0, 0⟩⟩]⟩ = [3] := rfl
    rw [if_neg, if_neg (by simpa using t)]
    · rw [hids, srt_one, hL]
      rfl
    · refine Classical.not_not.2 ⟨?_, by unfold asnOk; simp, by unfold monOk; simp⟩
      unfold POk
      rw [hids]
      unfold idOk
      simp
  rw [e1, e3]
  rfl

-- the deck
theorem member_tot (d : exchangepointmill_Deck) (hd : DeckOk d) (a : Int) : Tot (exchangepointmill_Deck_Member d a) (fun x => x.1.fASN = a ∧ POk x.1 ∧ 1 ≤ x.1.fPorts.length ∧ x.1.fPorts.length ≤ 3 ∧ DeckOk x.2) := by
  unfold exchangepointmill_Deck_Member
  refine Tot.bindLoop (fun s : Int × List api_Port × exchangepointmill_Deck => 0 ≤ s.1 ∧ s.1 ≤ 3 ∧ s.1 = s.2.1.length ∧ DeckOk s.2.2 ∧ (s.2.1.map (fun p => p.fID)).Pairwise (· < ·) ∧ ∀ x ∈ s.2.1.map (fun p => p.fID), 1 ≤ x ∧ x ≤ 3 * s.1) (fun s => 3 - s.1.toNat)
    (fun x => DeckOk x.1 ∧ 1 ≤ x.2.length ∧ x.2.length ≤ 3 ∧ (x.2.map (fun p => p.fID)).Pairwise (· < ·) ∧ ∀ y ∈ x.2.map (fun p => p.fID), 1 ≤ y ∧ y ≤ 9) ⟨Int.le_refl _, by simp, rfl, hd, by simp, by simp⟩ ?_ ?_
  · rintro ⟨k, ps, d⟩ ⟨h1, h2, h3, hd, h4, h5⟩
    simp only at h1 h2 h3 hd h4 h5
    unfold exchangepointmill_Deck_Member_L0
    refine Tot.bindT (next_tot d hd 3 (by omega) (by omega)) ?_
    rintro ⟨x, d⟩ ⟨x1, x2, hd⟩
    simp only at x1 x2 hd ⊢
    refine Tot.ite (fun c => ?_) (fun c => ?_)
    · have c := of_decide_eq_true c
      rw [w64_id (by omega) (by omega)] at c
      refine Tot.bindT (next_tot d hd 3 (by omega) (by omega)) ?_
      rintro ⟨y, d⟩ ⟨y1, y2, hd⟩
      simp only at y1 y2 hd ⊢
      have e1 : w64 (w64 (w64 (3 * k) + 1) + y) = 3 * k + 1 + y := by
        rw [w64_id (n := 3 * k) (by omega) (by omega), w64_id (n := 3 * k + 1) (by omega) (by omega), w64_id (by omega) (by omega)]
      have e2 : w64 (k + 1) = k + 1 := w64_id (by omega) (by omega)
      rw [e1, e2]
      refine Tot.chk (limB (by simp only [List.length_append, List.length_cons, List.length_nil]; omega)) (Tot.next ⟨by simp only; omega, by simp only; omega, by simp [h3], hd, ?_, ?_⟩ (by simp only; omega))
      · simp only [List.map_append, List.map_cons, List.map_nil]
        rw [List.pairwise_append]
        refine ⟨h4, by simp, fun u hu v hv => ?_⟩
        have := h5 u hu
        have := List.mem_singleton.1 hv
        omega
      · intro u hu
        simp only [List.map_append, List.map_cons, List.map_nil] at hu ⊢
        rcases List.mem_append.1 hu with hu | hu
        · have := h5 u hu; omega
        · have := List.mem_singleton.1 hu; omega
    · have c := of_decide_eq_false c
      rw [w64_id (by omega) (by omega)] at c
      refine Tot.out ⟨hd, ?_, ?_, h4, fun y hy => ?_⟩
      · simp only; omega
      · simp only; omega
      · have := h5 y hy; omega
  · rintro ⟨d, ps⟩ ⟨hd, h1, h2, h3, h4⟩
    refine Tot.some ⟨rfl, ⟨fun x hx => ?_, ?_, ?_⟩, h1, h2, hd⟩
    · have := h4 x hx
      unfold idOk; omega
    · exact h3.imp (fun h e => by omega)
    · unfold IDs
      simp only [List.length_map]; simp only at h2; omega
theorem tariff_tot (d : exchangepointmill_Deck) (hd : DeckOk d) : Tot (exchangepointmill_Deck_Tariff d) (fun x => (0 ≤ x.1.fBase ∧ x.1.fBase < 100000) ∧ (0 ≤ x.1.fIncluded ∧ x.1.fIncluded < 200) ∧ (0 ≤ x.1.fRate ∧ x.1.fRate < 50) ∧ DeckOk x.2) := by
  unfold exchangepointmill_Deck_Tariff
  refine Tot.bindT (next_tot d hd 100000 (by omega) (by omega)) ?_
  rintro ⟨x, d⟩ ⟨x1, x2, hd⟩
  refine Tot.bindT (next_tot d hd 200 (by omega) (by omega)) ?_
  rintro ⟨y, d⟩ ⟨y1, y2, hd⟩
  refine Tot.bindT (next_tot d hd 50 (by omega) (by omega)) ?_
  rintro ⟨z, d⟩ ⟨z1, z2, hd⟩
  exact Tot.some ⟨⟨x1, x2⟩, ⟨y1, y2⟩, ⟨z1, z2⟩, hd⟩

/-- a series with something recorded -/
structure Full (s : api_Series) : Prop where
  ok : VOk s
  small : s.fIn.length ≤ 40
  two : 2 ≤ s.fIn.length
  recd : ∃ h : 0 < s.fIn.length, 0 ≤ s.fIn[0]
theorem pr_cons {l m : List Int} (h : ∀ i (h : i < l.length) (h' : i < m.length), pr l[i] m[i]) {x y : Int} (hp : pr x y) : ∀ i (h : i < (x :: l).length) (h' : i < (y :: m).length), pr (x :: l)[i] (y :: m)[i] := fun i h1 h2 => by
  cases i with
  | zero => exact hp
  | succ i => exact h i (by simpa using h1) (by simpa using h2)
theorem fill_tot (s : api_Series) (d : exchangepointmill_Deck) (hs : VOk s) (hl : s.fIn.length ≤ 29) (hd : DeckOk d) : Tot (loop (exchangepointlaw41_bills_L1) (s, d)) (fun x => Full x.1 ∧ x.1.fIn.length ≤ 31 ∧ x.1.fPort = s.fPort ∧ DeckOk x.2) := by
  refine Tot.loop (fun st : api_Series × exchangepointmill_Deck => VOk st.1 ∧ DeckOk st.2 ∧ st.1.fPort = s.fPort ∧ (st.1.fIn.length ≤ 29 ∨ (st.1.fIn.length ≤ 31 ∧ ∃ h : 0 < st.1.fIn.length, 0 ≤ st.1.fIn[0])))
    (fun st => (if st.1.fIn.length < 2 then 2 - st.1.fIn.length else 0) + (if ∃ h : 0 < st.1.fIn.length, 0 ≤ st.1.fIn[0] then 0 else 1)) _ ?_ ⟨hs, hd, rfl, .inl hl⟩
  rintro ⟨s', d⟩ ⟨v, hd, hp, hl⟩
  simp only at v hd hp hl
  unfold exchangepointlaw41_bills_L1
  have hl31 : s'.fIn.length ≤ 31 := by rcases hl with h | ⟨h, _⟩ <;> omega
  refine Tot.jnR (fun b : Bool => b = true ↔ (s'.fIn.length < 2 ∨ ¬ ∃ h : 0 < s'.fIn.length, 0 ≤ s'.fIn[0])) (fun j hj => ?_) ?_
  · refine Tot.ite (fun c => hj _ ?_) (fun c => ?_)
    · have c := of_decide_eq_true c
      simp only [true_iff]; left; simp only at c; omega
    · have c := of_decide_eq_false c
      simp only at c
      refine Tot.bindIdx 0 rfl (show 0 < s'.fIn.length by omega) (hj _ ?_)
      simp only [decide_eq_true_eq]
      constructor
      · intro h; right; rintro ⟨_, h'⟩; omega
      · rintro (h | h)
        · omega
        · have hp0 : 0 < s'.fIn.length := by omega
          have h1 : ¬ (0 : Int) ≤ s'.fIn[0] := fun h' => h ⟨hp0, h'⟩
          omega
  · intro b hb
    refine Tot.ite (fun c => ?_) (fun c => ?_)
    · have hc := hb.1 c
      refine Tot.bindT (next_tot d hd _ (by omega) (by omega)) ?_
      rintro ⟨x, d⟩ ⟨x1, x2, hd⟩
      simp only at x1 x2 hd ⊢
      have hlen : s'.fIn.length ≤ 30 := by
        rcases hl with h | ⟨h, h'⟩
        · omega
        · rcases hc with hc | hc
          · omega
          · exact absurd h' hc
      have hlo := v.len
      refine Tot.chk (limB (by simp only [List.length_append, List.length_cons, List.length_nil]; omega)) ?_
      refine Tot.bindT (next_tot d hd _ (by omega) (by omega)) ?_
      rintro ⟨y, d⟩ ⟨y1, y2, hd⟩
      simp only at y1 y2 hd ⊢
      refine Tot.chk (limB (by simp only [List.length_append, List.length_cons, List.length_nil]; omega)) ?_
      refine Tot.next ⟨⟨v.port, v.sec, ?_, ?_, ?_⟩, hd, hp, .inr ⟨by simp only [List.length_append, List.length_cons, List.length_nil]; omega, by simp, by simpa using x1⟩⟩ ?_
      · simp only [List.length_append, List.length_cons, List.length_nil]; omega
      · simp only [List.length_append, List.length_cons, List.length_nil]; omega
      · exact pr_cons v.all (by unfold pr bin; omega)
      · have hyes : ∃ h : 0 < ([x] ++ s'.fIn).length, 0 ≤ ([x] ++ s'.fIn)[0] := ⟨by simp, by simpa using x1⟩
        simp only
        rw [if_pos hyes]
        simp only [List.length_append, List.length_cons, List.length_nil]
        rcases hc with hc | hc
        · rw [if_pos hc]; split <;> split <;> omega
        · rw [if_neg hc]; split <;> split <;> omega
    · have hc := mt hb.2 (by rw [c]; simp)
      have h2 : ¬ s'.fIn.length < 2 := fun h => hc (.inl h)
      have h3 : ∃ h : 0 < s'.fIn.length, 0 ≤ s'.fIn[0] := Classical.not_not.1 fun h => hc (.inr h)
      exact Tot.out ⟨⟨v, by simp only; omega, by simp only; omega, h3⟩, hl31, hp, hd⟩

structure Bills (m : api_Member) (t : api_Tariff) (l : List api_Series) : Prop where
  asn : m.fASN = 101
  ports : POk m
  some : 1 ≤ m.fPorts.length
  few : m.fPorts.length ≤ 3
  base : 0 ≤ t.fBase ∧ t.fBase < 100000
  incl : 0 ≤ t.fIncluded ∧ t.fIncluded < 200
  rate : 0 ≤ t.fRate ∧ t.fRate < 50
  ids : l.map (fun s => s.fPort) = IDs m
  full : ∀ s ∈ l, Full s
theorem Bills.len {m : api_Member} {t : api_Tariff} {l : List api_Series} (b : Bills m t l) : l.length = m.fPorts.length := by
  have := congrArg List.length b.ids
  unfold IDs at this
  simpa using this
theorem Bills.sers {m : api_Member} {t : api_Tariff} {l : List api_Series} (b : Bills m t l) : SersOk l := ⟨by have := b.len; have := b.few; omega, fun s hs => by have := (b.full s hs).small; omega⟩

theorem bills_tot (d : exchangepointmill_Deck) (hd : DeckOk d) : Tot (exchangepointlaw41_bills d) (fun x => Bills x.1 x.2.1 x.2.2.1 ∧ (∀ s ∈ x.2.2.1, s.fIn.length ≤ 31) ∧ DeckOk x.2.2.2) := by
  unfold exchangepointlaw41_bills
  refine Tot.bindT (member_tot d hd 101) ?_
  rintro ⟨m, d⟩ ⟨m1, m2, m3, m4, hd⟩
  refine Tot.bindT (tariff_tot d hd) ?_
  rintro ⟨t, d⟩ ⟨t1, t2, t3, hd⟩
  simp only at m1 m2 m3 m4 t1 t2 t3 hd ⊢
  refine Tot.bindRng m.fPorts.length (fun k (b : List api_Series × exchangepointmill_Deck) => ((k : Int), b.1, b.2)) (fun k b => b.1.map (fun s => s.fPort) = (IDs m).take k ∧ (∀ s ∈ b.1, Full s ∧ s.fIn.length ≤ 31) ∧ DeckOk b.2)
    (fun x => x.2.map (fun s => s.fPort) = IDs m ∧ (∀ s ∈ x.2, Full s ∧ s.fIn.length ≤ 31) ∧ DeckOk x.1) ([], d) rfl ⟨rfl, by simp, hd⟩ ?_ ?_ ?_
  · rintro k ⟨l, d⟩ hk ⟨h1, h2, hd⟩
    simp only at h1 h2 hd
    unfold exchangepointlaw41_bills_L0
    simp only
    have hlen : l.length ≤ k := by
      have := congrArg List.length h1
      rw [List.length_map, List.length_take] at this
      omega
    have hki : k < (IDs m).length := by unfold IDs; rw [List.length_map]; exact hk
    have hid : (IDs m)[k] = m.fPorts[k].fID := by simp [IDs]
    have hok := m2.1 _ (List.getElem_mem hki)
    rw [hid] at hok
    refine Tot.iteT (decide_eq_true (by omega)) (Tot.bindIdx k rfl hk (Tot.bindT (series_tot d hd _ hok) ?_))
    rintro ⟨s, d⟩ ⟨s1, s2, s3, hd⟩
    refine Tot.bindT (fill_tot s d s1 s2 hd) ?_
    rintro ⟨s', d⟩ ⟨f1, f31, f2, hd⟩
    refine Tot.chk (limB (by simp only [List.length_append, List.length_cons, List.length_nil]; omega)) (Tot.step (l ++ [s'], d) (Prod.ext (cast_succ_w hk (by omega)) rfl) ⟨?_, ?_, hd⟩)
    · rw [List.map_append, h1, take_snoc hki, hid]
      simp only at f2 s3
      simp only [List.map_cons, List.map_nil]
      rw [f2, s3]
    · intro x hx
      rcases List.mem_append.1 hx with hx | hx
      · exact h2 x hx
      · rw [List.mem_singleton.1 hx]; exact ⟨f1, f31⟩
  · rintro ⟨l, d⟩ ⟨h1, h2, hd⟩
    unfold exchangepointlaw41_bills_L0
    refine Tot.iteF (decide_eq_false (by simp only; omega)) (Tot.last ⟨?_, h2, hd⟩)
    have : m.fPorts.length = (IDs m).length := by unfold IDs; rw [List.length_map]
    rw [h1, this, List.take_length]
  · rintro ⟨d, l⟩ ⟨h1, h2, hd⟩
    exact Tot.some ⟨⟨m1, m2, m3, m4, t1, t2, t3, h1, fun s hs => (h2 s hs).1⟩, fun s hs => (h2 s hs).2, hd⟩

theorem rt_small {b s : Int} (h : 0 ≤ b ∧ b ≤ 1125899906842624) (hs : 1 ≤ s ∧ s ≤ 86400) : rt b s ≤ 1099511627776 := by
  unfold rt
  rw [Int.tdiv_eq_ediv_of_nonneg (by omega)]
  refine Int.le_of_lt_add_one (Int.ediv_lt_of_lt_mul (by omega) ?_)
  omega
theorem rts_small {l : List Int} {s : Int} (hs : 1 ≤ s ∧ s ≤ 86400) (hg : ∀ x ∈ l, good x) : ∀ x ∈ rts l s, x ≤ 1099511627776 := fun x hx => by
  unfold rts rec' at hx
  obtain ⟨b, hb, rfl⟩ := List.mem_map.1 hx
  obtain ⟨h1, h2⟩ := List.mem_filter.1 hb
  rcases hg b h1 with h | h
  · simp [h] at h2
  · exact rt_small h hs
theorem pct_small {l : List Int} (h : ∀ x ∈ l, x ≤ 1099511627776) (p : Int) : (PctF l p).1 ≤ 1099511627776 := by
  unfold PctF
  split
  · split
    · simp
    · show ((srt l)[rk l.length p]?).getD 0 ≤ _
      cases hg : (srt l)[rk l.length p]? with
      | none => simp
      | some x => exact h x ((srt_perm l).mem_iff.1 (List.mem_of_getElem? hg))
  · simp
theorem rec_pos {l : List Int} (h : 0 < l.length) (h0 : 0 ≤ l[0]) : 0 < (rec' l).length := by
  unfold rec'
  refine List.length_pos_of_mem (a := l[0]) (List.mem_filter.2 ⟨List.getElem_mem h, ?_⟩)
  simp only [bne_iff_ne]
  omega
theorem full_used {s : api_Series} (f : Full s) : (UsedF s 95).2 = 0 ∧ 0 ≤ (UsedF s 95).1 ∧ (UsedF s 95).1 ≤ 1099511627776 := by
  have v := f.ok
  obtain ⟨h0, h1⟩ := f.recd
  have hr := rec_pos h0 h1
  have hl := rec_len s.fIn
  have hsm := f.small
  have e : (PctF (rts s.fIn s.fSeconds) 95).2 = 0 := by
    unfold PctF
    rw [rts_len, if_pos ⟨by omega, by omega, by omega⟩, if_neg (by omega)]
  unfold UsedF
  rw [if_pos v, if_pos e]
  have n1 := pct_nonneg (rts_nonneg v.sec v.goodIn) 95
  have b1 := pct_small (rts_small v.sec v.goodIn) 95
  have b2 := pct_small (rts_small v.sec v.goodOut) 95
  simp only
  refine ⟨trivial, by omega, by omega⟩
theorem Bills.tok {m : api_Member} {t : api_Tariff} {l : List api_Series} (b : Bills m t l) : TOk t := by
  have := b.base; have := b.incl; have := b.rate
  unfold TOk; omega
theorem line_code {m : api_Member} {t : api_Tariff} {l : List api_Series} (b : Bills m t l) {p : Int} (hp : p ∈ IDs m) {e : Int} (h : LineF t l p = .inl e) : e = 3 := by
  rw [← b.ids] at hp
  obtain ⟨s, hs, hsp⟩ := List.mem_map.1 hp
  unfold LineF at h
  cases hf : l.find? (fun s => s.fPort == p) with
  | none =>
    have := List.find?_eq_none.1 hf s hs
    simp [hsp] at this
  | some s' =>
    rw [hf] at h
    simp only at h
    obtain ⟨u1, u2, u3⟩ := full_used (b.full s' (List.mem_of_find?_eq_some hf))
    rw [if_neg (by simpa using u1)] at h
    by_cases hc : (PriceF t (UsedF s' 95).1).2 = 0
    · rw [if_neg (by simpa using hc)] at h; cases h
    · rw [if_pos hc] at h
      cases h
      unfold PriceF at hc ⊢
      rw [if_neg (by simpa using b.tok), if_neg (by omega)] at hc ⊢
      by_cases hn : 1125899906842624 < PriceN t (UsedF s' 95).1
      · rw [if_pos hn]
      · rw [if_neg hn] at hc; exact absurd rfl hc
theorem lines_code {m : api_Member} {t : api_Tariff} {l : List api_Series} (b : Bills m t l) : ∀ {ps : List Int} {e : Int}, (∀ p ∈ ps, p ∈ IDs m) → LinesF t l ps = .inl e → e = 3
  | [], e, _, h => by simp only [LinesF] at h; cases h
  | q :: qs, e, hq, h => by
    simp only [LinesF] at h
    cases hx : LineF t l q with
    | inl e' => rw [hx] at h; cases h; exact line_code b (hq q (List.mem_cons_self ..)) hx
    | inr y =>
      rw [hx] at h
      simp only at h
      cases hr : LinesF t l qs with
      | inl e' => rw [hr] at h; cases h; exact lines_code b (fun p hp => hq p (List.mem_cons_of_mem _ hp)) hr
      | inr ys => rw [hr] at h; cases h
/-- what a deck's invoice is -/
theorem bills_make {m : api_Member} {t : api_Tariff} {l : List api_Series} (b : Bills m t l) {mo : Int} (hm : monOk mo) :
    (MakeF m mo t l).2 = 3 ∨ ∃ xs, LinesF t l (srt (IDs m)) = .inr xs ∧ MakeF m mo t l = (⟨m.fASN, mo, 1, xs, totF xs⟩, 0) := by
  have ha : asnOk m.fASN := by rw [b.asn]; unfold asnOk; omega
  unfold MakeF
  rw [if_neg (Classical.not_not.2 ⟨b.ports, ha, hm⟩), if_neg (by simpa using b.tok)]
  cases hL : LinesF t l (srt (IDs m)) with
  | inl e => exact .inl (lines_code b (fun p hp => (srt_perm _).mem_iff.1 hp) hL)
  | inr xs => exact .inr ⟨xs, rfl, rfl⟩
theorem line_price {t : api_Tariff} {l : List api_Series} {p : Int} {x : api_Line} (hx : LineF t l p = .inr x) : PriceF t x.fUsed = (x.fAmount, 0) := by
  unfold LineF at hx
  split at hx
  · cases hx
  · split at hx
    · cases hx
    · split at hx
      · cases hx
      · rename_i h
        cases hx
        simp only
        exact Prod.ext rfl (by simpa using h)
theorem lines_price {t : api_Tariff} {l : List api_Series} : ∀ {ps : List Int} {xs : List api_Line}, LinesF t l ps = .inr xs → ∀ x ∈ xs, PriceF t x.fUsed = (x.fAmount, 0)
  | [], xs, h => by simp only [LinesF] at h; cases h; simp
  | q :: qs, xs, h => by
    simp only [LinesF] at h
    cases hq : LineF t l q with
    | inl e => rw [hq] at h; cases h
    | inr y =>
      rw [hq] at h
      simp only at h
      cases hr : LinesF t l qs with
      | inl e => rw [hr] at h; cases h
      | inr ys =>
        rw [hr] at h
        simp only at h
        cases h
        intro x hx
        rcases List.mem_cons.1 hx with rfl | hx
        · exact line_price hq
        · exact lines_price hr x hx
theorem small_price {m : api_Member} {t : api_Tariff} {l : List api_Series} (b : Bills m t l) {u : Int} (h0 : 0 ≤ u) (h1 : u ≤ 100000) : PriceF t u = (PriceN t u, 0) := by
  have h2 := b.base; have h3 := b.incl; have h4 := b.rate
  unfold PriceF
  rw [if_neg (by simpa using b.tok), if_neg (by omega), if_neg]
  unfold PriceN
  have : t.fRate * max 0 (u - t.fIncluded) ≤ 50 * 100000 := Int.mul_le_mul (by omega) (by omega) (by omega) (by omega)
  omega

end Go.Proofs.Ytimcphncaffenaa
