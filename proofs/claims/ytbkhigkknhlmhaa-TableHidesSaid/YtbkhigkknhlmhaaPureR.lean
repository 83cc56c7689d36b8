/- The law of a more exact entry in plain Lean. -/
import Derived.Test.YtbkhigkknhlmhaaPureL
namespace Go.Proofs.Ytbkhigkknhlmhaa
open Go Go.Vc

/-- what is looked up, in terms of the entries -/
theorem look_tget {t : List api_Entry} (h : TV t) {a : api_Addr} {e : api_Entry} : LookF t a = some e ↔ tget t e.fPrefix = some e.fValue ∧ ContF e.fPrefix a = true ∧ ∀ q v, tget t q = some v → ContF q a = true → q.fLen ≤ e.fPrefix.fLen := by
  rw [look_iff h]
  constructor
  · rintro ⟨h1, h2, h3⟩
    exact ⟨tget_mem h h1, h2, fun q v g c => h3 _ (tget_some g) c⟩
  · rintro ⟨h1, h2, h3⟩
    exact ⟨tget_some h1, h2, fun x hx c => h3 _ _ (tget_mem h hx) c⟩
theorem hides_out {t : List api_Entry} (h : TV t) {p : api_Prefix} (hp : pV p) (v : Int) {a : api_Addr} (c : ContF p a = false) : LookF (SetL t p v) a = LookF t a := by
  have hs := setL_V hp v h
  refine Option.ext fun e => ?_
  rw [look_tget hs, look_tget h]
  simp only [tget_set hp v _ h]
  constructor
  · rintro ⟨h1, h2, h3⟩
    have hne : ¬ p = e.fPrefix := fun g => by rw [← g, c] at h2; cases h2
    rw [if_neg hne] at h1
    refine ⟨h1, h2, fun q w g k => h3 q w ?_ k⟩
    rw [if_neg fun g => by rw [← g, c] at k; cases k]; exact g
  · rintro ⟨h1, h2, h3⟩
    have hne : ¬ p = e.fPrefix := fun g => by rw [← g, c] at h2; cases h2
    refine ⟨by rw [if_neg hne]; exact h1, h2, fun q w g k => ?_⟩
    rw [if_neg fun g => by rw [← g, c] at k; cases k] at g
    exact h3 q w g k
theorem hides_in {t : List api_Entry} (h : TV t) {p : api_Prefix} (hp : pV p) (v : Int) {a : api_Addr} (c : ContF p a = true) : ∃ e, LookF (SetL t p v) a = some e ∧ p.fLen ≤ e.fPrefix.fLen ∧ (p.fLen < e.fPrefix.fLen → LookF t a = some e) ∧ (e.fPrefix.fLen = p.fLen → e.fValue = v) := by
  have hs := setL_V hp v h
  have hself : tget (SetL t p v) p = some v := by rw [tget_set hp v _ h, if_pos rfl]
  cases g : LookF (SetL t p v) a with
  | none => exact (look_none.1 g _ (tget_some hself) c).elim
  | some e =>
    obtain ⟨h1, h2, h3⟩ := (look_tget hs).1 g
    have hle := h3 _ _ hself c
    have hev := tget_dom hs _ _ h1
    refine ⟨e, rfl, hle, fun hlt => ?_, fun he => ?_⟩
    · have hne : ¬ p = e.fPrefix := fun g => by rw [g] at hlt; omega
      rw [tget_set hp v _ h, if_neg hne] at h1
      refine (look_tget h).2 ⟨h1, h2, fun q w gq k => ?_⟩
      by_cases e1 : p = q
      · rw [← e1]; omega
      · exact h3 q w (by rw [tget_set hp v _ h, if_neg e1]; exact gq) k
    · have hpe : p = e.fPrefix := covers_eq_len hp hev (nest hp hev c h2 (by omega)) he.symm
      rw [← hpe, hself] at h1
      exact (Option.some.inj h1).symm
theorem addrs_tot {t : List api_Entry} (h : TV t) (hl : t.length ≤ 23) : Tot (exchangepointlaw03_addrs t) (fun l => (∀ x ∈ l, aV x) ∧ l.length ≤ 23) := by
  unfold exchangepointlaw03_addrs
  refine Tot.bindRng t.length (fun k (b : List api_Addr) => (((k : Nat) : Int), b)) (fun k b => (∀ x ∈ b, aV x) ∧ b.length = k) (fun l => (∀ x ∈ l, aV x) ∧ l.length ≤ 23) [] rfl ⟨fun x hx => (by cases hx), rfl⟩ (fun k b hk hb => ?_) (fun b hb => ?_) (fun x hx => Tot.some hx)
  · obtain ⟨hb1, hb2⟩ := hb
    have hw : w64 ((k : Int) + 1) = ((k + 1 : Nat) : Int) := by rw [w64_id (by omega) (by omega)]; rfl
    unfold exchangepointlaw03_addrs_L0
    refine Tot.iteT (by simpa using hk) (Tot.bindIdx k rfl hk (Tot.chk (limB (by simp; omega)) (Tot.step (b ++ [t[k].fPrefix.fAddr]) (by rw [hw]) ⟨fun x hm => ?_, by simp; omega⟩)))
    rcases List.mem_append.1 hm with hm | hm
    · exact hb1 x hm
    · rw [List.mem_singleton.1 hm]; exact (h.1 _ (List.getElem_mem hk)).addr
  · obtain ⟨hb1, hb2⟩ := hb
    unfold exchangepointlaw03_addrs_L0
    exact Tot.iteF (by simp) (Tot.last ⟨hb1, by simp only; omega⟩)
theorem hides_loop {t : List api_Entry} {d d1 d2 : exchangepointmake_Deck} {z : Int} (h : TV t) (hl : t.length ≤ 23) {a b : api_Addr} (ha : aV a) (hb : aV b) {p : api_Prefix} (hp : pV p) {v : Int} {l : List api_Addr} (hls : ∀ x ∈ l, aV x) (hll : l.length ≤ 23) :
    Tot (loop (exchangepointlaw03_TableHides_L0 v (t, d) (p, d1) (a, d2) (SetL t p v, z) b l) (0 : Int)) (fun r => r = .inr ()) := by
  have hall : ∀ x ∈ [a, p.fAddr, b] ++ l, aV x := fun x hx => by
    rcases List.mem_append.1 hx with hx | hx
    · rcases List.mem_cons.1 hx with rfl | hx
      · exact ha
      · rcases List.mem_cons.1 hx with rfl | hx
        · exact hp.addr
        · rw [List.mem_singleton.1 hx]; exact hb
    · exact hls x hx
  unfold exchangepointlaw03_TableHides_L0
  simp only
  have hgl : ([a, p.fAddr, b] ++ l).length ≤ 26 := by simp; omega
  generalize [a, p.fAddr, b] ++ l = g at hall hgl ⊢
  have hs := setL_V hp v h
  have hsl := set_len p v t
  refine Tot.rng g.length (fun k (_ : Unit) => ((k : Nat) : Int)) (fun _ _ => True) _ () rfl trivial (fun k b hk _ => ?_) (fun b _ => ?_)
  · have hw : w64 ((k : Int) + 1) = ((k + 1 : Nat) : Int) := by rw [w64_id (by omega) (by omega)]; rfl
    have hx := hall _ (List.getElem_mem hk)
    refine Tot.iteT (by simpa using hk) (Tot.bindIdx k rfl hk (Tot.bindIdx k rfl hk (Tot.bindOf (look_eq h hx.1 (by omega)) (Tot.bindOf (look_eq hs hx.1 (by omega)) (Tot.bindOf (rcont_eq _ hx) ?_)))))
    refine Tot.jnR (fun m : Bool => m = false) (fun j hj => ?_) (fun m hm => Tot.iteF hm (Tot.jnR (fun m : Bool => m = false) (fun j hj => ?_) (fun m hm => Tot.iteF hm (Tot.step () (by rw [hw]) trivial))))
    · cases c : ContF p g[k] with
      | true => exact Tot.iteF (by decide) (hj _ rfl)
      | false =>
        refine Tot.iteT rfl (hj _ ?_)
        rw [hides_out h hp v c]
        show ((!(eeq ((LookF t g[k]).getD zE) ((LookF t g[k]).getD zE))) || ((LookF t g[k]).isSome != (LookF t g[k]).isSome)) = false
        rw [eeq_iff.2 rfl]
        simp
    · cases c : ContF p g[k] with
      | false => exact Tot.iteF (by decide) (hj _ rfl)
      | true =>
        obtain ⟨e, e1, e2, e3, e4⟩ := hides_in h hp v c
        rw [e1]
        refine Tot.iteT rfl (Tot.iteF ?_ (Tot.iteF ?_ (hj _ ?_)))
        · simp only [Option.getD_some, Option.isSome_some, Bool.not_true, Bool.false_or]
          exact decide_eq_false (by omega)
        · by_cases hlt : p.fLen < e.fPrefix.fLen
          · rw [e3 hlt]
            show (decide (p.fLen < e.fPrefix.fLen) && (!(eeq e e))) = false
            rw [eeq_iff.2 rfl]; simp
          · simp only [Option.getD_some]
            rw [decide_eq_false hlt, Bool.false_and]
        · simp only [Option.getD_some]
          by_cases he : e.fPrefix.fLen = p.fLen
          · rw [e4 he]; simp
          · simp [he]
  · exact Tot.iteF (by simp) (Tot.last rfl)
/-- the law -/
theorem hides_law (a0 : List Int) (h0 : (∀ y ∈ a0, I64 y) ∧ a0.length ≤ maxLen) (a1 : Int) {p1 : Prop} (_ : p1) : exchangepointlaw03_TableHides a0 a1 = some true := by
  refine Tot.eq ?_
  unfold exchangepointlaw03_TableHides
  refine Tot.bindOf (show exchangepointmake_New a0 = some ⟨a0, 0⟩ from rfl) (Tot.bindT (table_tot _ (new_ok a0 (by have := h0.2; unfold maxLen at this; omega))) ?_)
  rintro ⟨t, d⟩ ⟨⟨ht, hl⟩, hd⟩
  simp only at ht hl hd ⊢
  refine Tot.bindT (prefix_tot _ hd) ?_
  rintro ⟨p, d1⟩ ⟨hp, hd1⟩
  simp only at hp hd1 ⊢
  refine Tot.bindT (addr_tot _ hd1) ?_
  rintro ⟨a, d2⟩ ⟨ha, hd2⟩
  simp only at ha hd2 ⊢
  refine Tot.bindOf (put_eq a1 ht.R hp.addr.1 (by omega)) ?_
  have hsl := set_len p a1 t
  have e : PutF t p a1 = (SetL t p a1, 0) := by
    unfold PutF
    rw [if_pos ⟨validT_iff.2 ⟨ht, by omega⟩, validF_iff.2 hp⟩, if_neg (by omega)]
  rw [e]
  refine Tot.iteF rfl (Tot.bindOf (rlast_eq hp) (Tot.bindT (addrs_tot ht hl) fun l hls => ?_))
  obtain ⟨l1, l2⟩ := hls
  refine Tot.chk (limB (by simp; omega)) (Tot.bindT (hides_loop ht hl ha (lastF_V hp) hp l1 l2) fun x hx => ?_)
  subst hx
  exact Tot.bindOf awake_eq (Tot.some rfl)
end Go.Proofs.Ytbkhigkknhlmhaa
