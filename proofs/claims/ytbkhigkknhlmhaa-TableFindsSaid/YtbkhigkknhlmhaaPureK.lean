/- Tables in plain Lean: halves joined, both sides aggregate alike. -/
import Derived.Test.YtbkhigkknhlmhaaPureG
import Derived.Test.YtbkhigkknhlmhaaVcMP
namespace Go.Proofs.Ytbkhigkknhlmhaa
open Go Go.Vc

theorem cut_succ (n k : Nat) : cut n k = cut n (k + 1) + if n.testBit k = true then 2 ^ k else 0 := by
  have e1 : n / 2 ^ (k + 1) = n / 2 ^ k / 2 := by rw [Nat.pow_succ, Nat.div_div_eq_div_mul]
  unfold cut
  rw [e1, Nat.testBit_eq_decide_div_mod_eq, Nat.pow_succ]
  generalize n / 2 ^ k = q
  generalize 2 ^ k = p
  by_cases h : q % 2 = 1
  · rw [if_pos (by simpa using h)]
    have : q = 2 * (q / 2) + 1 := by omega
    calc q * p = (2 * (q / 2) + 1) * p := by rw [← this]
      _ = q / 2 * (p * 2) + p := by rw [Nat.add_mul, Nat.one_mul, Nat.mul_comm 2, Nat.mul_assoc, Nat.mul_comm 2]
  · rw [if_neg (by simpa using h)]
    have : q = 2 * (q / 2) := by omega
    calc q * p = (2 * (q / 2)) * p := by rw [← this]
      _ = q / 2 * (p * 2) + 0 := by rw [Nat.mul_comm 2, Nat.mul_assoc, Nat.mul_comm 2, Nat.add_zero]
/-- the prefix that is shorter by 1 -/
def parP (q : api_Prefix) : api_Prefix := api_Prefix.mk (mkA q.fAddr.fV6 (cut (nA q.fAddr) (fr q + 1))) (q.fLen - 1)
theorem par_make {q : api_Prefix} (h : pV q) (h1 : 1 ≤ q.fLen) : MakeF q.fAddr (q.fLen - 1) = (parP q, 0) := by
  obtain ⟨n, hn⟩ : ∃ n : Nat, q.fLen - 1 = n := ⟨(q.fLen - 1).toNat, by omega⟩
  have h2 := h.len1
  have hf := fr_eq h
  rw [hn, makeF_ok h.addr (by omega)]
  unfold parP
  rw [hn, show wid q.fAddr.fV6 - n = fr q + 1 from by omega]
theorem par_V {q : api_Prefix} (h : pV q) (h1 : 1 ≤ q.fLen) : pV (parP q) := by
  obtain ⟨n, hn⟩ : ∃ n : Nat, q.fLen - 1 = n := ⟨(q.fLen - 1).toNat, by omega⟩
  have h2 := h.len1
  have hf := fr_eq h
  have := make_V h.addr (n := n) (by omega)
  rw [show wid q.fAddr.fV6 - n = fr q + 1 from by omega, ← hn] at this
  exact this
theorem par_len (q : api_Prefix) : (parP q).fLen = q.fLen - 1 := rfl
theorem par_v6 (q : api_Prefix) : (parP q).fAddr.fV6 = q.fAddr.fV6 := rfl
theorem par_fr {q : api_Prefix} (h : pV q) (h1 : 1 ≤ q.fLen) : fr (parP q) = fr q + 1 := by
  have a := fr_eq h
  have b := fr_eq (par_V h h1)
  rw [par_len, par_v6] at b
  omega
theorem par_lt {q : api_Prefix} (h : pV q) (h1 : 1 ≤ q.fLen) : (parP q).fLen < wid (parP q).fAddr.fV6 := by
  rw [par_len, par_v6]
  have := h.len1
  omega
theorem par_halves {q : api_Prefix} (h : pV q) (h1 : 1 ≤ q.fLen) : ((nA q.fAddr).testBit (fr q) = false ∧ q = loH (parP q)) ∨ ((nA q.fAddr).testBit (fr q) = true ∧ q = hiH (parP q)) := by
  have hc := cut_succ (nA q.fAddr) (fr q)
  rw [low_fr h] at hc
  have hp := par_V h h1
  have hl := par_lt h h1
  cases hb : (nA q.fAddr).testBit (fr q) with
  | false =>
    left
    rw [hb, if_neg (by simp), Nat.add_zero] at hc
    refine ⟨rfl, pV_ext h (loH_V hp hl) rfl (by unfold loH; rw [par_len]; simp only; omega) ?_⟩
    show nA q.fAddr = nA (mkA q.fAddr.fV6 (cut (nA q.fAddr) (fr q + 1)))
    rw [nA_mkA]; exact hc
  | true =>
    right
    rw [hb, if_pos rfl] at hc
    refine ⟨rfl, pV_ext h (hiH_V hp hl) rfl (by unfold hiH; rw [par_len]; simp only; omega) ?_⟩
    unfold hiH
    simp only
    rw [nA_mkA, par_fr h h1]
    unfold parP
    simp only
    rw [nA_mkA, Nat.add_sub_cancel]; exact hc
theorem halves_par {P : api_Prefix} (h : pV P) (hl : P.fLen < wid P.fAddr.fV6) : parP (loH P) = P ∧ parP (hiH P) = P := by
  have h0 := h.len0
  have hf := fr_eq h
  have v1 := loH_V h hl
  have v2 := hiH_V h hl
  have l1 : 1 ≤ (loH P).fLen := by unfold loH; simp only; omega
  have l2 : 1 ≤ (hiH P).fLen := by unfold hiH; simp only; omega
  have f1 : fr (loH P) + 1 = fr P := by have := fr_eq v1; unfold loH at this ⊢; simp only at this; omega
  have f2 : fr (hiH P) + 1 = fr P := by have := fr_eq v2; unfold hiH at this ⊢; simp only [mkA_v6] at this; omega
  refine ⟨pV_ext (par_V v1 l1) h rfl (by unfold parP loH; simp only; omega) ?_, pV_ext (par_V v2 l2) h rfl (by unfold parP hiH; simp only; omega) ?_⟩
  · unfold parP
    simp only
    rw [nA_mkA, f1]; exact low_fr h
  · unfold parP
    simp only
    rw [nA_mkA, f2]
    show cut (nA (mkA P.fAddr.fV6 (nA P.fAddr + 2 ^ (fr P - 1)))) (fr P) = nA P.fAddr
    rw [nA_mkA, ← cut_two (low_fr h) (by omega), cut_cut _ (by omega)]
    refine Nat.eq_of_testBit_eq fun i => ?_
    have hh := congrArg (fun n => Nat.testBit n i) (low_fr h)
    simp only [cut_bit] at hh
    rw [cut_bit, fill_bit, ← hh]
    by_cases hi : fr P ≤ i
    · rw [decide_eq_true hi, decide_eq_false (show ¬ i < fr P by omega)]; simp
    · rw [decide_eq_false hi]; simp
theorem halves_ne {P : api_Prefix} (h : pV P) (hl : P.fLen < wid P.fAddr.fV6) : loH P ≠ hiH P := fun e => by
  have := congrArg (fun q => nA (api_Prefix.fAddr q)) e
  unfold loH hiH at this
  simp only [nA_mkA] at this
  have : 0 < 2 ^ (fr P - 1) := Nat.pow_pos (by decide)
  omega
/-- what is in a prefix is in one of its halves -/
theorem halves_cont {P : api_Prefix} (h : pV P) (hl : P.fLen < wid P.fAddr.fV6) {a : api_Addr} (c : ContF P a = true) : ContF (loH P) a = true ∨ ContF (hiH P) a = true := by
  obtain ⟨c1, c2⟩ := (cont_iff h).1 c
  have h0 := h.len0
  have hf := fr_eq h
  have v1 := loH_V h hl
  have v2 := hiH_V h hl
  have f1 : fr (loH P) = fr P - 1 := by have := fr_eq v1; unfold loH at this ⊢; simp only at this; omega
  have f2 : fr (hiH P) = fr P - 1 := by have := fr_eq v2; unfold hiH at this ⊢; simp only [mkA_v6] at this; omega
  have hc := cut_succ (nA a) (fr P - 1)
  rw [show fr P - 1 + 1 = fr P from by omega, c2] at hc
  cases hb : (nA a).testBit (fr P - 1) with
  | false =>
    left
    rw [hb, if_neg (by simp), Nat.add_zero] at hc
    refine (cont_iff v1).2 ⟨c1, ?_⟩
    rw [f1]; exact hc
  | true =>
    right
    rw [hb, if_pos rfl] at hc
    refine (cont_iff v2).2 ⟨c1, ?_⟩
    rw [f2]
    show _ = nA (mkA P.fAddr.fV6 (nA P.fAddr + 2 ^ (fr P - 1)))
    rw [nA_mkA]; exact hc
theorem par_cont {q : api_Prefix} (h : pV q) (h1 : 1 ≤ q.fLen) {a : api_Addr} (c : ContF q a = true) : ContF (parP q) a = true := by
  obtain ⟨c1, c2⟩ := (cont_iff h).1 c
  refine (cont_iff (par_V h h1)).2 ⟨c1, ?_⟩
  rw [par_fr h h1]
  unfold parP
  simp only
  rw [nA_mkA, ← c2, cut_cut _ (by omega)]

-- joining

abbrev PM := api_Prefix → Option Int
/-- the value of a prefix whose halves have one -/
def merged (m : PM) (P : api_Prefix) : Option Int :=
  match m (loH P), m (hiH P) with
  | some a, some b => if a = b then some a else none
  | _, _ => none
theorem merged_iff {m : PM} {P : api_Prefix} {v : Int} : merged m P = some v ↔ m (loH P) = some v ∧ m (hiH P) = some v := by
  unfold merged
  cases h1 : m (loH P) with
  | none => simp
  | some a =>
    cases h2 : m (hiH P) with
    | none => simp
    | some b =>
      simp only [Option.some.injEq]
      by_cases e : a = b
      · subst e; simp
      · rw [if_neg e]
        constructor
        · intro h; cases h
        · rintro ⟨rfl, rfl⟩; exact (e rfl).elim
def dom (m : PM) : Prop := ∀ q v, m q = some v → pV q
open Classical in
/-- those of a set of parents are joined -/
noncomputable def JP (n : Int) (D : api_Prefix → Prop) (m : PM) : PM := fun q =>
  if pV q then
    (if q.fLen = n then (if D (parP q) ∧ (merged m (parP q)).isSome = true then none else m q)
    else if q.fLen = n - 1 then (if D q ∧ (merged m q).isSome = true then merged m q else m q)
    else m q)
  else none
noncomputable def J (n : Int) (m : PM) : PM := JP n (fun _ => True) m
theorem jp_dom {n : Int} {D : api_Prefix → Prop} {m : PM} : dom (JP n D m) := fun q v h => by
  unfold JP at h
  by_cases hp : pV q
  · exact hp
  · rw [if_neg hp] at h; cases h
theorem jp_nil {n : Int} {m : PM} (hd : dom m) : JP n (fun _ => False) m = m := by
  funext q
  unfold JP
  by_cases hp : pV q
  · rw [if_pos hp]
    simp
  · rw [if_neg hp]
    cases h : m q with
    | none => rfl
    | some v => exact (hp (hd q v h)).elim
open Classical in
/-- nothing changes when a parent is joined that is none -/
theorem jp_skip {n : Int} {D : api_Prefix → Prop} {m : PM} {P : api_Prefix} (h : D P ∨ merged m P = none) : JP n (fun Q => D Q ∨ Q = P) m = JP n D m := by
  funext q
  have key : ∀ Q, ((D Q ∨ Q = P) ∧ (merged m Q).isSome = true) ↔ (D Q ∧ (merged m Q).isSome = true) := fun Q => by
    constructor
    · rintro ⟨h1 | rfl, h2⟩
      · exact ⟨h1, h2⟩
      · rcases h with h | h
        · exact ⟨h, h2⟩
        · rw [h] at h2; cases h2
    · rintro ⟨h1, h2⟩; exact ⟨.inl h1, h2⟩
  unfold JP
  simp only [key]
open Classical in
theorem jp_congr {n : Int} (hn : 1 ≤ n) {D D' : api_Prefix → Prop} {m : PM} (h : ∀ Q, pV Q → Q.fLen = n - 1 → (merged m Q).isSome = true → (D Q ↔ D' Q)) : JP n D m = JP n D' m := by
  funext q
  have key : ∀ Q, pV Q → Q.fLen = n - 1 → ((D Q ∧ (merged m Q).isSome = true) ↔ (D' Q ∧ (merged m Q).isSome = true)) := fun Q h1 h2 => by
    constructor
    · rintro ⟨g1, g2⟩; exact ⟨(h Q h1 h2 g2).1 g1, g2⟩
    · rintro ⟨g1, g2⟩; exact ⟨(h Q h1 h2 g2).2 g1, g2⟩
  unfold JP
  by_cases hq : pV q
  · rw [if_pos hq, if_pos hq]
    by_cases c : q.fLen = n
    · rw [if_pos c, if_pos c]
      simp only [key _ (par_V hq (by omega)) (by rw [par_len, c])]
    · rw [if_neg c, if_neg c]
      by_cases c2 : q.fLen = n - 1
      · rw [if_pos c2, if_pos c2]
        simp only [key _ hq c2]
      · rw [if_neg c2, if_neg c2]
  · rw [if_neg hq, if_neg hq]
open Classical in
/-- the halves of a parent that was not joined -/
theorem jp_half {n : Int} {D : api_Prefix → Prop} {m : PM} {P : api_Prefix} (hP : pV P) (hl : P.fLen < wid P.fAddr.fV6) (hn : P.fLen = n - 1) : JP n D m (loH P) = (if D P ∧ (merged m P).isSome = true then none else m (loH P)) ∧ JP n D m (hiH P) = if D P ∧ (merged m P).isSome = true then none else m (hiH P) := by
  obtain ⟨p1, p2⟩ := halves_par hP hl
  have e1 : (loH P).fLen = n := by unfold loH; simp only; omega
  have e2 : (hiH P).fLen = n := by unfold hiH; simp only; omega
  unfold JP
  rw [if_pos (loH_V hP hl), if_pos e1, p1, if_pos (hiH_V hP hl), if_pos e2, p2]
  exact ⟨rfl, rfl⟩
open Classical in
/-- a parent is joined -/
theorem jp_join {n : Int} {D : api_Prefix → Prop} {m m' : PM} {P : api_Prefix} {v : Int} (hP : pV P) (hl : P.fLen < wid P.fAddr.fV6) (hn : P.fLen = n - 1) (hv : merged m P = some v)
    (h : ∀ q, m' q = if P = q then some v else if hiH P = q then none else if loH P = q then none else JP n D m q) : m' = JP n (fun Q => D Q ∨ Q = P) m := by
  obtain ⟨p1, p2⟩ := halves_par hP hl
  have e1 : (loH P).fLen = n := by unfold loH; simp only; omega
  have e2 : (hiH P).fLen = n := by unfold hiH; simp only; omega
  have hs : (merged m P).isSome = true := by rw [hv]; rfl
  funext q
  rw [h q]
  by_cases c1 : P = q
  · subst c1
    rw [if_pos rfl]
    unfold JP
    rw [if_pos hP, if_neg (by omega), if_pos hn, if_pos ⟨.inr rfl, hs⟩, hv]
  · rw [if_neg c1]
    by_cases c2 : hiH P = q
    · subst c2
      rw [if_pos rfl]
      unfold JP
      rw [if_pos (hiH_V hP hl), if_pos e2, p2, if_pos ⟨.inr rfl, hs⟩]
    · rw [if_neg c2]
      by_cases c3 : loH P = q
      · subst c3
        rw [if_pos rfl]
        unfold JP
        rw [if_pos (loH_V hP hl), if_pos e1, p1, if_pos ⟨.inr rfl, hs⟩]
      · rw [if_neg c3]
        unfold JP
        by_cases hq : pV q
        · rw [if_pos hq, if_pos hq]
          by_cases c4 : q.fLen = n
          · rw [if_pos c4, if_pos c4]
            have hne : parP q ≠ P := fun e => by
              have h0 := hP.len0
              rcases par_halves hq (by omega) with ⟨_, g⟩ | ⟨_, g⟩
              · rw [e] at g; exact c3 g.symm
              · rw [e] at g; exact c2 g.symm
            simp only [hne, or_false]
          · rw [if_neg c4, if_neg c4]
            have hne : q ≠ P := fun e => c1 e.symm
            simp only [hne, or_false]
        · rw [if_neg hq, if_neg hq]

theorem tget_dom {t : List api_Entry} (h : TV t) : dom (tget t) := fun q v hv => h.1 _ ((tget_iff h).1 hv)
theorem tget_mem {t : List api_Entry} (h : TV t) {x : api_Entry} (hx : x ∈ t) : tget t x.fPrefix = some x.fValue := (tget_iff (v := x.fValue) (p := x.fPrefix) h).2 hx
theorem without_len {t : List api_Entry} {p : api_Prefix} {v : Int} (h : tget t p = some v) : (t.filter fun x => !(peq x.fPrefix p)).length + 1 ≤ t.length := by
  have hm := tget_some h
  have := List.length_filter_lt_length_iff_exists.2 (⟨_, hm, by simp [peq_iff]⟩ : ∃ x ∈ t, ¬ (fun x : api_Entry => !(peq x.fPrefix p)) x = true)
  omega
theorem halvesF_par {q : api_Prefix} (h : pV q) (h1 : 1 ≤ q.fLen) : HalvesF (parP q) = (loH (parP q), hiH (parP q), 0) := by
  have hp := par_V h h1
  have hl := par_lt h h1
  unfold HalvesF
  rw [if_pos hp, if_neg (by omega)]
/-- the document's pass over the entries of a length -/
theorem ref_pass {s2 : List api_Entry × Int} (h : TV s2.1) (hn : 1 ≤ s2.2 ∧ s2.2 ≤ 128) (hl : s2.1.length ≤ 1000000) :
    Tot (loop (exchangepointref03_Aggregate_L1 s2) (s2.1, (0 : Int))) (fun r => TV r ∧ r.length ≤ s2.1.length ∧ tget r = J s2.2 (tget s2.1)) := by
  obtain ⟨t, n⟩ := s2
  simp only at h hn hl ⊢
  have hd := tget_dom h
  refine Tot.rng t.length (fun k (b : List api_Entry) => (b, ((k : Nat) : Int))) (fun k b => TV b ∧ b.length ≤ t.length ∧ tget b = JP n (fun P => ∃ x ∈ t.take k, x.fPrefix.fLen = n ∧ parP x.fPrefix = P) (tget t)) _ t rfl ⟨h, Nat.le_refl _, ?_⟩ (fun k b hk hb => ?_) (fun b hb => ?_)
  · rw [← jp_nil (n := n) hd]
    have e : (fun P : api_Prefix => ∃ x ∈ t.take 0, x.fPrefix.fLen = n ∧ parP x.fPrefix = P) = fun _ => False := by
      funext P; simp
    rw [e, jp_nil hd, jp_nil hd]
  · obtain ⟨hb1, hb2, hb3⟩ := hb
    unfold exchangepointref03_Aggregate_L1
    simp only
    have hw : w64 ((k : Int) + 1) = ((k + 1 : Nat) : Int) := by rw [w64_id (by omega) (by omega)]; rfl
    have hx := h.1 _ (List.getElem_mem hk)
    have hg := tget_mem h (List.getElem_mem hk)
    have hset : (fun P : api_Prefix => ∃ x ∈ t.take (k + 1), x.fPrefix.fLen = n ∧ parP x.fPrefix = P) = fun P => (∃ x ∈ t.take k, x.fPrefix.fLen = n ∧ parP x.fPrefix = P) ∨ (t[k].fPrefix.fLen = n ∧ parP t[k].fPrefix = P) := by
      funext P
      refine propext ⟨fun ⟨x, hx, hr⟩ => ?_, fun hr => ?_⟩
      · rw [take_snoc hk] at hx
        rcases List.mem_append.1 hx with hx | hx
        · exact .inl ⟨x, hx, hr⟩
        · rw [List.mem_singleton.1 hx] at hr; exact .inr hr
      · rcases hr with ⟨x, hx, hr⟩ | hr
        · exact ⟨x, by rw [take_snoc hk]; exact List.mem_append_left _ hx, hr⟩
        · exact ⟨t[k], by rw [take_snoc hk]; exact List.mem_append_right _ (List.mem_singleton.2 rfl), hr⟩
    refine Tot.iteT (by simpa using hk) (Tot.jnR (fun m : List api_Entry => TV m ∧ m.length ≤ t.length ∧ tget m = JP n (fun P => ∃ x ∈ t.take (k + 1), x.fPrefix.fLen = n ∧ parP x.fPrefix = P) (tget t)) (fun j hj => ?_) (fun m hm => Tot.step m (by rw [hw]) hm))
    rw [hset] at hj
    refine Tot.bindIdx k rfl hk (Tot.bindIdx k rfl hk (Tot.ite (fun hc => hj _ ⟨hb1, hb2, ?_⟩) (fun hc => ?_)))
    · have hc : ¬ t[k].fPrefix.fLen = n := by simpa using hc
      rw [hb3]
      congr 1
      funext P
      simp [hc]
    · have hc : t[k].fPrefix.fLen = n := by simpa using hc
      have h1 : 1 ≤ t[k].fPrefix.fLen := by omega
      have en : n - 1 = t[k].fPrefix.fLen - 1 := by omega
      rw [w64_id (n := n - 1) (by omega) (by omega), en]
      refine Tot.bindOf (rmake_eq hx.addr.1 _) ?_
      rw [par_make hx h1]
      have hP := par_V hx h1
      have hPl := par_lt hx h1
      have hPn : (parP t[k].fPrefix).fLen = n - 1 := by rw [par_len, hc]
      refine Tot.bindOf (rhalves_eq hP.addr.1) ?_
      rw [halvesF_par hx h1]
      refine Tot.bindOf (rget_eq _ _ (by omega)) (Tot.bindOf (rget_eq _ _ (by omega)) ?_)
      simp only
      obtain ⟨g1, g2⟩ := jp_half (D := fun P => ∃ x ∈ t.take k, x.fPrefix.fLen = n ∧ parP x.fPrefix = P) (m := tget t) hP hPl hPn
      rw [← hb3] at g1 g2
      have eqs : (fun P : api_Prefix => (∃ x ∈ t.take k, x.fPrefix.fLen = n ∧ parP x.fPrefix = P) ∨ (t[k].fPrefix.fLen = n ∧ parP t[k].fPrefix = P)) = fun Q => (∃ x ∈ t.take k, x.fPrefix.fLen = n ∧ parP x.fPrefix = Q) ∨ Q = parP t[k].fPrefix := by
        funext Q
        simp only [hc, true_and]
        congr 1
        exact propext eq_comm
      rw [eqs] at hj
      generalize hPP : parP t[k].fPrefix = P at *
      by_cases hD : ∃ x ∈ t.take k, x.fPrefix.fLen = n ∧ parP x.fPrefix = P
      · -- done before
        have same : tget b = JP n (fun Q => (∃ x ∈ t.take k, x.fPrefix.fLen = n ∧ parP x.fPrefix = Q) ∨ Q = P) (tget t) := by
          rw [hb3]; exact (jp_skip (.inl hD)).symm
        refine Tot.iteF ?_ (hj _ ⟨hb1, hb2, same⟩)
        rw [g1, g2]
        by_cases hm : (merged (tget t) P).isSome = true
        · rw [if_pos ⟨hD, hm⟩]; rfl
        · rw [if_neg (fun e => hm e.2), if_neg (fun e => hm e.2)]
          cases e1 : tget t (loH P) with
          | none => rfl
          | some a =>
            cases e2 : tget t (hiH P) with
            | none => rfl
            | some b =>
              by_cases e : a = b
              · subst e
                exact (hm (by rw [merged_iff.2 ⟨e1, e2⟩]; rfl)).elim
              · simpa using e
      · rw [if_neg (fun e => hD e.1)] at g1 g2
        rw [g1, g2]
        cases hm : merged (tget t) P with
        | none =>
          have same : tget b = JP n (fun Q => (∃ x ∈ t.take k, x.fPrefix.fLen = n ∧ parP x.fPrefix = Q) ∨ Q = P) (tget t) := by
            rw [hb3]; exact (jp_skip (.inr hm)).symm
          refine Tot.iteF ?_ (hj _ ⟨hb1, hb2, same⟩)
          cases e1 : tget t (loH P) with
          | none => rfl
          | some a =>
            cases e2 : tget t (hiH P) with
            | none => rfl
            | some b =>
              by_cases e : a = b
              · subst e
                rw [merged_iff.2 ⟨e1, e2⟩] at hm; cases hm
              · simpa using e
        | some v =>
          obtain ⟨e1, e2⟩ := merged_iff.1 hm
          rw [e1, e2]
          refine Tot.iteT (by simp) ?_
          have w1 := without_len (g1.trans e1)
          refine Tot.bindOf (rwithout_eq _ (by omega)) ?_
          have gb : tget (b.filter fun x => !(peq x.fPrefix (loH P))) (hiH P) = some v := by
            rw [tget_without, if_neg (halves_ne hP hPl), g2, e2]
          have w2 := without_len gb
          refine Tot.bindOf (rwithout_eq _ (by omega)) ?_
          have vb := filter_V (fun x => !(peq x.fPrefix (hiH P))) (filter_V (fun x => !(peq x.fPrefix (loH P))) hb1)
          refine Tot.bindOf (rset_eq _ vb.R hP.addr.1 (by omega)) (hj _ ⟨setL_V hP _ vb, ?_, ?_⟩)
          · have := set_len P ((some v).getD 0) ((b.filter fun x => !(peq x.fPrefix (loH P))).filter fun x => !(peq x.fPrefix (hiH P)))
            omega
          · refine jp_join hP hPl hPn hm fun q => ?_
            rw [tget_set hP _ q vb, tget_without, tget_without, hb3]
            rfl
  · obtain ⟨hb1, hb2, hb3⟩ := hb
    unfold exchangepointref03_Aggregate_L1
    refine Tot.iteF (by simp) (Tot.last ⟨hb1, hb2, ?_⟩)
    rw [hb3, List.take_length]
    unfold J
    refine jp_congr hn.1 fun Q hQ hQn hQm => ⟨fun _ => trivial, fun _ => ?_⟩
    obtain ⟨v, hv⟩ := Option.isSome_iff_exists.1 hQm
    obtain ⟨e1, e2⟩ := merged_iff.1 hv
    have hlo := hd _ _ e1
    have hl2 := hlo.len1
    have hl3 : (loH Q).fLen = Q.fLen + 1 := rfl
    have hl4 : (loH Q).fAddr.fV6 = Q.fAddr.fV6 := rfl
    rw [hl3, hl4] at hl2
    exact ⟨_, tget_some e1, by show Q.fLen + 1 = n; omega, (halves_par hQ (by omega)).1⟩

/-- the lengths k, k - 1, .., 1 are joined in turn -/
noncomputable def JJ : Nat → PM → PM
  | 0, m => m
  | k + 1, m => JJ k (J ((k + 1 : Nat) : Int) m)
theorem ref_levels {t : List api_Entry} (h : TV t) (hl : t.length ≤ 1000000) : Tot (loop exchangepointref03_Aggregate_L0 (t, (128 : Int))) (fun r => TV r ∧ r.length ≤ t.length ∧ tget r = JJ 128 (tget t)) := by
  refine Tot.rng 128 (fun k (b : List api_Entry) => (b, ((128 - k : Nat) : Int))) (fun k b => TV b ∧ b.length ≤ t.length ∧ JJ (128 - k) (tget b) = JJ 128 (tget t)) _ t rfl ⟨h, Nat.le_refl _, rfl⟩ (fun k b hk hb => ?_) (fun b hb => ?_)
  · obtain ⟨hb1, hb2, hb3⟩ := hb
    obtain ⟨j, hj⟩ : ∃ j, 128 - k = j + 1 := ⟨127 - k, by omega⟩
    have hj2 : 128 - (k + 1) = j := by omega
    unfold exchangepointref03_Aggregate_L0
    rw [hj] at hb3 ⊢
    refine Tot.iteT (by simp only [decide_eq_true_eq]; omega) (Tot.chk (limB (by simp only; omega)) (Tot.bindT (ref_pass (s2 := (b, ((j + 1 : Nat) : Int))) hb1 (by simp only; omega) (by simp only; omega)) fun r hr => ?_))
    obtain ⟨r1, r2, r3⟩ := hr
    refine Tot.step r (by rw [hj2, w64_id (by omega) (by omega)]; congr 3; omega) ⟨r1, Nat.le_trans r2 hb2, ?_⟩
    rw [hj2, r3, ← hb3]
    rfl
  · obtain ⟨hb1, hb2, hb3⟩ := hb
    unfold exchangepointref03_Aggregate_L0
    exact Tot.iteF (by simp) (Tot.last ⟨hb1, hb2, hb3⟩)

-- the code's maps

theorem key37 : KeyLaw keq37 := fun a b => peq_iff (p := a) (q := b)
abbrev ML := List (api_Prefix × Int)
def MR (m : ML) (f : PM) : Prop := (mkeys m).Nodup ∧ ∀ q, mget keq37 m q = f q
theorem mget_absent {m : ML} (hm : (mkeys m).Nodup) {q : api_Prefix} (h : q ∉ mkeys m) : mget keq37 m q = none := by
  cases e : mget keq37 m q with
  | none => rfl
  | some v => exact (h (List.mem_map.2 ⟨_, (mget_some key37 hm).1 e, rfl⟩)).elim
theorem mget_mdel (k q : api_Prefix) : ∀ {m : ML}, (mkeys m).Nodup → mget keq37 (mdel keq37 m k) q = if q = k then none else mget keq37 m q
  | [], _ => by
    show mget keq37 [] q = _
    rw [mget_nil]; split <;> rfl
  | p :: m, h => by
    have h1 : p.1 ∉ mkeys m := (List.nodup_cons.1 h).1
    have h2 : (mkeys m).Nodup := (List.nodup_cons.1 h).2
    unfold mdel
    by_cases hk : keq37 k p.1 = true
    · have e := (key37 _ _).1 hk
      rw [if_pos hk]
      by_cases hq : q = k
      · rw [if_pos hq, hq, e, mget_absent h2 h1]
      · rw [if_neg hq, mget_cons, if_neg (fun c => hq (((key37 _ _).1 c).trans e.symm))]
    · rw [if_neg hk, mget_cons, mget_cons, mget_mdel k q h2]
      by_cases hq : keq37 q p.1 = true
      · have e := (key37 _ _).1 hq
        rw [if_pos hq, if_pos hq, if_neg (fun c => hk (by rw [← c]; exact hq))]
      · rw [if_neg hq, if_neg hq]
theorem mdel_nodup {m : ML} (k : api_Prefix) (h : (mkeys m).Nodup) : (mkeys (mdel keq37 m k)).Nodup := h.sublist ((mdel_sub m).map _)
theorem MR.mem {m : ML} {f : PM} (h : MR m f) {q : api_Prefix} {v : Int} : (q, v) ∈ m ↔ f q = some v := by
  rw [← h.2, mget_some key37 h.1]
theorem nodup_of_keys {m : ML} (h : (mkeys m).Nodup) : m.Nodup := List.Pairwise.of_map (S := (· ≠ ·)) (f := Prod.fst) (fun a b hab e => hab (by rw [e])) h
theorem MR.perm {m m' : ML} {f : PM} (h : MR m f) (h' : MR m' f) : m.Perm m' := by
  refine (List.perm_ext_iff_of_nodup (nodup_of_keys h.1) (nodup_of_keys h'.1)).2 fun p => ?_
  obtain ⟨q, v⟩ := p
  rw [h.mem, h'.mem]
theorem MR.of_perm {m m' : ML} {f : PM} (h : MR m f) (hp : m'.Perm m) : MR m' f := by
  have hn : (mkeys m').Nodup := ((hp.map Prod.fst).nodup_iff).2 h.1
  refine ⟨hn, fun q => Option.ext fun v => ?_⟩
  rw [mget_some key37 hn, hp.mem_iff, h.mem]
theorem foldS_inv {S A : Type} {tb : S → A → Option S} (I : List A → S → Prop) : ∀ (rest done : List A) (s : S), I done s →
    (∀ d x r s, d ++ x :: r = done ++ rest → I d s → Tot (tb s x) (fun s' => I (d ++ [x]) s')) → Tot (foldS tb s rest) (fun s' => I (done ++ rest) s')
  | [], done, s, h, _ => ⟨s, rfl, by rw [List.append_nil]; exact h⟩
  | x :: rest, done, s, h, hs => by
    obtain ⟨s1, e1, h1⟩ := hs done x rest s rfl h
    have e : done ++ x :: rest = (done ++ [x]) ++ rest := by simp
    rw [foldS, e1, e]
    exact foldS_inv I rest (done ++ [x]) s1 h1 fun d y r s hd => hs d y r s (hd.trans e.symm)

/-- the lower halves of a length, among the entries of a list, give these parents -/
def lowD (n : Int) (l : ML) (P : api_Prefix) : Prop := ∃ x ∈ l, (x.1.fLen = n ∧ (nA x.1.fAddr).testBit (fr x.1) = false) ∧ parP x.1 = P
theorem lowD_snoc {n : Int} {l : ML} {x : api_Prefix × Int} : lowD n (l ++ [x]) = fun P => lowD n l P ∨ ((x.1.fLen = n ∧ (nA x.1.fAddr).testBit (fr x.1) = false) ∧ parP x.1 = P) := by
  funext P
  unfold lowD
  refine propext ⟨fun ⟨y, hy, hr⟩ => ?_, fun hr => ?_⟩
  · rcases List.mem_append.1 hy with hy | hy
    · exact .inl ⟨y, hy, hr⟩
    · rw [List.mem_singleton.1 hy] at hr; exact .inr hr
  · rcases hr with ⟨y, hy, hr⟩ | hr
    · exact ⟨y, List.mem_append_left _ hy, hr⟩
    · exact ⟨x, List.mem_append_right _ (List.mem_singleton.2 rfl), hr⟩
/-- one entry of the code's pass -/
theorem join_step {m : ML} {f : PM} {n : Nat} (hm : MR m f) (hd : dom f) (hn : 1 ≤ n ∧ n ≤ 128) {d r : ML} {x : api_Prefix × Int} {s : ML} (hp : (d ++ x :: r).Perm m) (hs : MR s (JP n (lowD n d) f)) :
    Tot (table_join_L0 (n : Int) s x) (fun s' => MR s' (JP n (lowD n (d ++ [x])) f)) := by
  obtain ⟨q, v⟩ := x
  have hx : f q = some v := hm.mem.1 (hp.mem_iff.1 (by simp))
  have hq := hd _ _ hx
  have hnd : (mkeys (d ++ (q, v) :: r)).Nodup := ((hp.map Prod.fst).nodup_iff).2 hm.1
  have hnot : ∀ w, (q, w) ∉ d := fun w hw => by
    unfold mkeys at hnd
    rw [List.map_append, List.nodup_append] at hnd
    exact hnd.2.2 q (List.mem_map.2 ⟨_, hw, rfl⟩) q (by simp) rfl
  unfold table_join_L0
  simp only
  refine Tot.jnR (fun b : Bool => b = true ↔ ¬ (q.fLen = n ∧ (nA q.fAddr).testBit (fr q) = false)) (fun j hj => Tot.ite (fun hc => hj true ?_) (fun hc => ?_)) (fun b hb => ?_)
  · have hc : ¬ q.fLen = n := by simpa using hc
    simp [hc]
  · have hc : q.fLen = n := by simpa using hc
    have hl := hq.len1
    have hf := fr_eq hq
    have hwd := wid_le q.fAddr.fV6
    rw [w64_id (n := (n : Int) - 1) (by omega) (by omega), show (n : Int) - 1 = ((n - 1 : Nat) : Int) from by omega]
    refine Tot.bindOf (bit_eq hq.addr.1 (by omega)) (hj _ ?_)
    rw [show wid q.fAddr.fV6 - 1 - (n - 1) = fr q from by omega]
    cases hb : (nA q.fAddr).testBit (fr q) <;> simp [hc]
  · by_cases low : q.fLen = n ∧ (nA q.fAddr).testBit (fr q) = false
    · have e3 : lowD n (d ++ [(q, v)]) = fun Q => lowD n d Q ∨ Q = parP q := by
        rw [lowD_snoc]
        funext Q
        refine propext (or_congr_right ⟨fun e => e.2.symm, fun e => ⟨low, e.symm⟩⟩)
      rw [e3]
      have hb0 : ¬ b = true := fun e => hb.1 e low
      refine Tot.iteF (by simpa using hb0) ?_
      have h1 : 1 ≤ q.fLen := by omega
      have hqe : q = loH (parP q) := by
        rcases par_halves hq h1 with ⟨_, e⟩ | ⟨e, _⟩
        · exact e
        · rw [low.2] at e; cases e
      have hP := par_V hq h1
      have hPl := par_lt hq h1
      have hPn : (parP q).fLen = n - 1 := by rw [par_len, low.1]
      rw [w64_id (n := (n : Int) - 1) (by omega) (by omega), ← low.1]
      refine Tot.bindOf (make_eq hq.addr.1 _) ?_
      rw [par_make hq h1]
      refine Tot.bindOf (halves_eq hP.addr.1) ?_
      rw [halvesF_par hq h1]
      simp only
      have hD : ¬ lowD n d (parP q) := by
        rintro ⟨⟨q', w⟩, hy, hl, e⟩
        simp only at hl e
        rcases par_halves (hd _ _ (hm.mem.1 (hp.mem_iff.1 (List.mem_append_left _ hy)))) (by omega) with ⟨_, e'⟩ | ⟨e', _⟩
        · rw [e, ← hqe] at e'
          rw [e'] at hy
          exact hnot w hy
        · rw [hl.2] at e'; cases e'
      obtain ⟨g1, g2⟩ := jp_half (D := lowD n d) (m := f) hP hPl hPn
      rw [if_neg (fun e => hD e.1)] at g1 g2
      rw [← hqe, hx] at g1
      rw [hs.2, g2]
      rw [low.1]
      have mi : ∀ w, merged f (parP q) = some w ↔ v = w ∧ f (hiH (parP q)) = some w := fun w => by
        rw [merged_iff, ← hqe, hx]
        constructor
        · rintro ⟨e, e'⟩; exact ⟨Option.some.inj e, e'⟩
        · rintro ⟨e, e'⟩; exact ⟨by rw [e], e'⟩
      cases hg : f (hiH (parP q)) with
      | none =>
        refine Tot.iteF (by simp) (Tot.some ?_)
        rw [jp_skip (.inr ?_)]
        · exact hs
        · cases e : merged f (parP q) with
          | none => rfl
          | some w => have := ((mi w).1 e).2; rw [hg] at this; cases this
      | some w =>
        by_cases hvw : w = v
        · subst hvw
          refine Tot.iteT (by simp) (Tot.some ?_)
          have n1 := mdel_nodup q hs.1
          have n2 := mdel_nodup (hiH (parP q)) n1
          refine ⟨mkeys_nodup key37 _ _ n2, fun k => ?_⟩
          have jj := jp_join (n := n) (D := lowD n d) (m := f) (m' := fun k => if parP q = k then some w else if hiH (parP q) = k then none else if loH (parP q) = k then none else JP n (lowD n d) f k) (v := w) hP hPl hPn ((mi w).2 ⟨rfl, hg⟩) (fun _ => rfl)
          rw [← jj, mget_mput key37, mget_mdel _ _ n1, mget_mdel _ _ hs.1, hs.2, ← hqe]
          simp only [eq_comm (a := k)]
        · refine Tot.iteF (by simpa using hvw) (Tot.some ?_)
          rw [jp_skip (.inr ?_)]
          · exact hs
          · cases e : merged f (parP q) with
            | none => rfl
            | some u =>
              obtain ⟨e1, e2⟩ := (mi u).1 e
              rw [hg] at e2
              exact (hvw ((Option.some.inj e2).trans e1.symm)).elim
    · have hb1 : b = true := hb.2 low
      refine Tot.iteT hb1 (Tot.some ?_)
      have e3 : lowD n (d ++ [(q, v)]) = lowD n d := by
        rw [lowD_snoc]
        funext P
        exact propext ⟨fun e => e.elim id fun e => (low e.1).elim, .inl⟩
      rw [e3]
      exact hs
/-- the code's pass over a length, in whatever order -/
theorem join_tot {m : ML} {f : PM} {n : Nat} (hm : MR m f) (hd : dom f) (hn : 1 ≤ n ∧ n ≤ 128) : Tot (table_join m (n : Int)) (fun r => MR r (J n f)) := by
  have key : ∀ p : ML, p.Perm m → Tot (foldS (table_join_L0 (n : Int)) m p) (fun s => MR s (J n f)) := fun p hp => by
    obtain ⟨s, e, h⟩ := foldS_inv (fun d s => MR s (JP n (lowD n d) f)) p [] m (tb := table_join_L0 (n : Int)) (by
      have : lowD n [] = fun _ => False := by funext P; simp [lowD]
      rw [this, jp_nil hd]; exact hm) (fun d x r s hdr hs => join_step hm hd hn (by rw [hdr]; exact hp) hs)
    refine ⟨s, e, ?_⟩
    have e2 : J n f = JP n (lowD n ([] ++ p)) f := by
      unfold J
      refine jp_congr (by omega) fun Q hQ hQn hQm => ⟨fun _ => ?_, fun _ => trivial⟩
      obtain ⟨v, hv⟩ := Option.isSome_iff_exists.1 hQm
      obtain ⟨e1, e2⟩ := merged_iff.1 hv
      have hlo := hd _ _ e1
      have hl2 := hlo.len1
      have hl3 : (loH Q).fLen = Q.fLen + 1 := rfl
      have hl4 : (loH Q).fAddr.fV6 = Q.fAddr.fV6 := rfl
      rw [hl3, hl4] at hl2
      have hp1 := (halves_par hQ (by omega)).1
      refine ⟨(loH Q, v), hp.mem_iff.2 (hm.mem.2 e1), ⟨by show Q.fLen + 1 = n; omega, ?_⟩, hp1⟩
      rcases par_halves hlo (by have := hQ.len0; omega) with ⟨g, _⟩ | ⟨_, g⟩
      · exact g
      · rw [hp1] at g
        exact (halves_ne hQ (by omega) g).elim
    rw [e2]; exact h
  unfold table_join
  refine Tot.bindOf (show ext67_maps_Clone m = some m from rfl) ?_
  obtain ⟨s0, e0, h0⟩ := key m (List.Perm.refl _)
  refine ⟨mcan s0, mapAll_of fun p hp => ?_, h0.of_perm (mcan_perm _)⟩
  obtain ⟨s, e, h⟩ := key p hp
  rw [e]
  show some (mcan s) = some (mcan s0)
  rw [mcan_congr (h.perm h0)]
theorem j_dom {n : Int} {m : PM} : dom (J n m) := jp_dom
theorem code_levels {m : ML} {f : PM} (hm : MR m f) (hd : dom f) : Tot (loop table_Aggregate_L1 ((128 : Int), m)) (fun r => MR r (JJ 128 f)) := by
  refine Tot.rng 128 (fun k (b : ML) => (((128 - k : Nat) : Int), b)) (fun k b => ∃ g, MR b g ∧ dom g ∧ JJ (128 - k) g = JJ 128 f) _ m rfl ⟨f, hm, hd, rfl⟩ (fun k b hk hb => ?_) (fun b hb => ?_)
  · obtain ⟨g, hb1, hb2, hb3⟩ := hb
    obtain ⟨j, hj⟩ : ∃ j, 128 - k = j + 1 := ⟨127 - k, by omega⟩
    have hj2 : 128 - (k + 1) = j := by omega
    unfold table_Aggregate_L1
    rw [hj] at hb3 ⊢
    refine Tot.iteT (by simp only [decide_eq_true_eq]; omega) (Tot.bindT (join_tot hb1 hb2 (by omega)) fun r hr => ?_)
    refine Tot.step r (by rw [hj2, w64_id (by omega) (by omega)]; congr 3; omega) ⟨_, hr, j_dom, ?_⟩
    rw [hj2, ← hb3]
    rfl
  · obtain ⟨g, hb1, hb2, hb3⟩ := hb
    unfold table_Aggregate_L1
    exact Tot.iteF (by simp) (Tot.last (by rw [← hb3]; exact hb1))
theorem tget_snoc {q : api_Prefix} {x : api_Entry} : ∀ {a : List api_Entry}, (∀ y ∈ a, y.fPrefix ≠ x.fPrefix) → tget (a ++ [x]) q = if q = x.fPrefix then some x.fValue else tget a q
  | [], _ => by
    show (if x.fPrefix = q then some x.fValue else none) = _
    simp only [eq_comm (a := q)]
    rfl
  | y :: a, h => by
    show (if y.fPrefix = q then some y.fValue else tget (a ++ [x]) q) = if q = x.fPrefix then some x.fValue else if y.fPrefix = q then some y.fValue else tget a q
    rw [tget_snoc fun z hz => h z (List.mem_cons_of_mem _ hz)]
    by_cases e : y.fPrefix = q
    · rw [if_pos e, if_neg (fun c => h y List.mem_cons_self (e.trans c)), if_pos e]
    · rw [if_neg e, if_neg e]
/-- the map of a table -/
theorem code_map {t : List api_Entry} (h : TV t) (hl : t.length ≤ 4000000000) : Tot (loop (table_Aggregate_L0 t) ((0 : Int), ([] : ML))) (fun m => MR m (tget t)) := by
  refine Tot.rng t.length (fun k (b : ML) => (((k : Nat) : Int), b)) (fun k b => MR b (tget (t.take k))) _ [] rfl ⟨List.nodup_nil, fun q => rfl⟩ (fun k b hk hb => ?_) (fun b hb => ?_)
  · unfold table_Aggregate_L0
    have hw : w64 ((k : Int) + 1) = ((k + 1 : Nat) : Int) := by rw [w64_id (by omega) (by omega)]; rfl
    refine Tot.iteT (by simpa using hk) (Tot.bindIdx k rfl hk (Tot.step (mput keq37 b t[k].fPrefix t[k].fValue) (by rw [hw]) ⟨mkeys_nodup key37 _ _ hb.1, fun q => ?_⟩))
    rw [mget_mput key37, hb.2, take_snoc hk, tget_snoc]
    intro y hy
    have := h.2
    have e : t = t.take k ++ t.drop k := (List.take_append_drop k t).symm
    rw [e, List.pairwise_append] at this
    refine pLt_ne (this.2.2 y hy t[k] ?_)
    rw [List.drop_eq_getElem_cons hk]
    exact List.mem_cons_self
  · unfold table_Aggregate_L0
    refine Tot.iteF (by simp) (Tot.last ?_)
    rw [List.take_length] at hb
    exact hb

/-- those of a table that cover a prefix and are others -/
noncomputable def above (r : List api_Entry) (x : api_Entry) : List api_Entry := r.filter fun y => (!(peq y.fPrefix x.fPrefix)) && CoversF y.fPrefix x.fPrefix
noncomputable def keepA (r : List api_Entry) (x : api_Entry) : Bool :=
  match (above r x).getLast? with
  | none => true
  | some y => y.fValue != x.fValue
noncomputable def AggL (r : List api_Entry) : List api_Entry := r.filter (keepA r)
theorem keepA_nil {r : List api_Entry} {x : api_Entry} (h : above r x = []) : keepA r x = true := by unfold keepA; rw [h]; rfl
theorem keepA_snoc {r a : List api_Entry} {x y : api_Entry} (h : above r x = a ++ [y]) : keepA r x = (y.fValue != x.fValue) := by unfold keepA; rw [h, List.getLast?_concat]
theorem agg_V {r : List api_Entry} (h : TV r) : TV (AggL r) := filter_V _ h
theorem agg_len (r : List api_Entry) : (AggL r).length ≤ r.length := List.length_filter_le _ _
theorem above_len (r : List api_Entry) (x : api_Entry) : (above r x).length ≤ r.length := List.length_filter_le _ _
/-- what covers an entry of a table, itself last -/
theorem covers_split {r : List api_Entry} (h : TV r) {x : api_Entry} (hx : x ∈ r) : (r.filter fun y => CoversF y.fPrefix x.fPrefix) = above r x ++ [x] := by
  obtain ⟨a, b, rfl⟩ := List.append_of_mem hx
  have hv := h.1
  have hp := h.2
  rw [List.pairwise_append] at hp
  obtain ⟨_, h2, h3⟩ := hp
  have h2 := (List.pairwise_cons.1 h2).1
  have e1 : b.filter (fun y => CoversF y.fPrefix x.fPrefix) = [] := List.filter_eq_nil_iff.2 fun y hy c => by
    rcases covers_le (hv y (by simp [hy])) (hv x (by simp)) c with e | e
    · exact pLt_ne (h2 y hy) e.symm
    · exact pLt_asym (h2 y hy) e
  have e2 : b.filter (fun y => (!(peq y.fPrefix x.fPrefix)) && CoversF y.fPrefix x.fPrefix) = [] := List.filter_eq_nil_iff.2 fun y hy c => by
    rw [List.filter_eq_nil_iff] at e1
    exact e1 y hy (by simp only [Bool.and_eq_true] at c; exact c.2)
  have e3 : a.filter (fun y => CoversF y.fPrefix x.fPrefix) = a.filter (fun y => (!(peq y.fPrefix x.fPrefix)) && CoversF y.fPrefix x.fPrefix) := List.filter_congr fun y hy => by
    have : peq y.fPrefix x.fPrefix = false := by
      cases c : peq y.fPrefix x.fPrefix with
      | false => rfl
      | true => exact (pLt_ne (h3 y hy x List.mem_cons_self) (peq_iff.1 c)).elim
    rw [this]; simp
  have c1 : CoversF x.fPrefix x.fPrefix = true := covers_self (hv x hx)
  have c2 : peq x.fPrefix x.fPrefix = true := peq_iff.2 rfl
  unfold above
  rw [List.filter_append, List.filter_append, List.filter_cons, List.filter_cons, e1, e2, e3, c1, c2]
  simp
/-- the code's choice -/
theorem code_keep {r : List api_Entry} {n : Nat} (h : TV r) (hn : n = r.length) (hl : r.length ≤ 4000000000) : Tot (loop (table_Aggregate_L3 r) (r, (0 : Int), ([] : List api_Entry))) (fun x => x = AggL r) := by
  refine Tot.rng r.length (fun k (b : List api_Entry) => (r, ((k : Nat) : Int), b)) (fun k b => b = (r.take k).filter (keepA r)) _ [] rfl rfl (fun k b hk hb => ?_) (fun b hb => ?_)
  · subst hb
    have hw : w64 ((k : Int) + 1) = ((k + 1 : Nat) : Int) := by rw [w64_id (by omega) (by omega)]; rfl
    have hlen : ((r.take k).filter (keepA r)).length ≤ k := Nat.le_trans (List.length_filter_le _ _) (by rw [List.length_take]; omega)
    unfold table_Aggregate_L3
    have hx := h.1 _ (List.getElem_mem hk)
    refine Tot.iteT (by simpa using hk) (Tot.bindIdx k rfl hk (Tot.bindOf (filt1 _ hx.addr.1 hl) (Tot.jnR (fun m : Bool => m = keepA r r[k]) (fun j hj => ?_) (fun m hm => Tot.jnR (fun b : List api_Entry => b = (r.take (k + 1)).filter (keepA r)) (fun j hj => ?_) (fun b hb => Tot.step b (by rw [hw]) hb)))))
    · rw [show (r.filter fun x => (!(peq x.fPrefix r[k].fPrefix)) && CoversF x.fPrefix r[k].fPrefix) = above r r[k] from rfl]
      have hal := above_len r r[k]
      rcases List.eq_nil_or_concat (above r r[k]) with e | ⟨a, y, e⟩
      · exact Tot.iteT (by rw [e]; rfl) (hj _ (keepA_nil e).symm)
      · rw [List.concat_eq_append] at e
        rw [e] at hal ⊢
        simp only [List.length_append, List.length_singleton] at hal ⊢
        refine Tot.iteF (by simp; omega) ?_
        rw [w64_id (by omega) (by omega)]
        refine Tot.bindIdx a.length (by omega) (by simp) (hj _ ?_)
        rw [keepA_snoc e]
        simp
    · rw [filter_snoc (keepA r) hk] at hj
      subst hm
      refine Tot.ite (fun hc => Tot.chk (limB (by simp; omega)) (hj _ (by rw [if_pos hc]))) (fun hc => hj _ (by rw [hc]; rfl))
  · unfold table_Aggregate_L3
    refine Tot.iteF (by simp) (Tot.last ?_)
    rw [hb, List.take_length]; rfl
/-- the document's choice -/
theorem ref_keep {r : List api_Entry} (h : TV r) (hl : r.length ≤ 4000000000) : Tot (loop (exchangepointref03_Aggregate_L2 r) ((0 : Int), ([] : List api_Entry))) (fun x => x = AggL r) := by
  refine Tot.rng r.length (fun k (b : List api_Entry) => (((k : Nat) : Int), b)) (fun k b => b = (r.take k).filter (keepA r)) _ [] rfl rfl (fun k b hk hb => ?_) (fun b hb => ?_)
  · subst hb
    have hw : w64 ((k : Int) + 1) = ((k + 1 : Nat) : Int) := by rw [w64_id (by omega) (by omega)]; rfl
    have hlen : ((r.take k).filter (keepA r)).length ≤ k := Nat.le_trans (List.length_filter_le _ _) (by rw [List.length_take]; omega)
    unfold exchangepointref03_Aggregate_L2
    have hx := h.1 _ (List.getElem_mem hk)
    refine Tot.iteT (by simpa using hk) (Tot.bindIdx k rfl hk (Tot.bindOf (rcovering_eq hx.addr hl) (Tot.jnR (fun m : Bool => m = keepA r r[k]) (fun j hj => ?_) (fun m hm => Tot.jnR (fun b : List api_Entry => b = (r.take (k + 1)).filter (keepA r)) (fun j hj => ?_) (fun b hb => Tot.step b (by rw [hw]) hb)))))
    · rw [covers_split h (List.getElem_mem hk)]
      have hal := above_len r r[k]
      rcases List.eq_nil_or_concat (above r r[k]) with e | ⟨a, y, e⟩
      · exact Tot.iteT (by rw [e]; rfl) (hj _ (keepA_nil e).symm)
      · rw [List.concat_eq_append] at e
        rw [e] at hal ⊢
        simp only [List.length_append, List.length_singleton] at hal ⊢
        refine Tot.iteF (by simp; omega) ?_
        rw [w64_id (by omega) (by omega)]
        refine Tot.bindIdx a.length (by omega) (by simp) (hj _ ?_)
        rw [keepA_snoc e]
        simp
    · rw [filter_snoc (keepA r) hk] at hj
      subst hm
      refine Tot.ite (fun hc => Tot.chk (limB (by simp; omega)) (hj _ (by rw [if_pos hc]))) (fun hc => hj _ (by rw [hc]; rfl))
  · unfold exchangepointref03_Aggregate_L2
    refine Tot.iteF (by simp) (Tot.last ?_)
    rw [hb, List.take_length]; rfl
/-- a map's entries, sorted, are the table -/
theorem sort_map {m p : ML} {r : List api_Entry} (hr : TV r) (hl : r.length ≤ 1000000000) (hm : MR m (tget r)) (hp : p.Perm m) :
    foldS table_Aggregate_L2 ([] : List api_Entry) p = some (p.map fun q => api_Entry.mk q.1 q.2) ∧ sortF (p.map fun q => api_Entry.mk q.1 q.2) (fun x y => table_Aggregate_1 x y) = some r ∧ (p.map fun q => api_Entry.mk q.1 q.2).length = r.length := by
  have hmp := hm.of_perm hp
  have hnr : r.Nodup := List.Pairwise.imp (S := fun a b : api_Entry => a ≠ b) (fun {a b} h e => pLt_ne h (by rw [e])) hr.2
  have hnm : (p.map fun q => api_Entry.mk q.1 q.2).Nodup := by
    refine List.Pairwise.map (S := fun a b : api_Entry => a ≠ b) _ ?_ (nodup_of_keys hmp.1)
    rintro ⟨a, b⟩ ⟨c, d⟩ h e
    exact h (by cases e; rfl)
  have hpr : (p.map fun q => api_Entry.mk q.1 q.2).Perm r := by
    refine (List.perm_ext_iff_of_nodup hnm hnr).2 fun x => ?_
    rw [List.mem_map]
    constructor
    · rintro ⟨⟨a, b⟩, h, rfl⟩
      exact tget_some (hmp.mem.1 h)
    · intro h
      exact ⟨(x.fPrefix, x.fValue), hmp.mem.2 (tget_mem hr h), rfl⟩
  have hlen := hpr.length_eq
  have hR : ∀ x ∈ p.map fun q => api_Entry.mk q.1 q.2, aR x.fPrefix.fAddr := fun x hx => hr.R x (hpr.mem_iff.1 hx)
  refine ⟨?_, ?_, hlen⟩
  · obtain ⟨s, e, h⟩ := foldS_inv (tb := table_Aggregate_L2) (fun d s => s = d.map fun q => api_Entry.mk q.1 q.2) p [] [] rfl (fun d x rr s hd hs => by
      have hdl : d.length + 1 ≤ p.length := by
        have := congrArg List.length hd
        simp at this; omega
      unfold table_Aggregate_L2
      subst hs
      rw [List.length_map] at hlen
      exact Tot.chk (limB (by simp; omega)) (Tot.some (by simp)))
    rw [e, h]; simp
  · obtain ⟨s, e, hperm, hsort⟩ := sortF_tot (xs := p.map fun q => api_Entry.mk q.1 q.2) (cmp := fun x y => table_Aggregate_1 x y) (fun x y => cmpP x.fPrefix y.fPrefix) (fun x hx y hy => bind_of (pcmp_eq (hR x hx) (hR y hy)) rfl) (fun x _ => by rw [cmpP_lt]; exact pLt_irr _)
      (fun x hx y hy z hz h1 h2 => by rw [cmpP_lt] at *; exact pLt_trans (hR x hx) (hR y hy) (hR z hz) h1 h2)
      (fun x hx y hy z hz h1 h2 h3 => by
        rw [cmpP_lt] at *
        by_cases c : pLt y.fPrefix x.fPrefix
        · exact h2 (pLt_trans (hR y hy) (hR x hx) (hR z hz) c h3)
        · rw [pLt_tri (hR x hx) (hR y hy) h1 c] at h3; exact h2 h3) (by omega)
    rw [e]
    have hsr := hperm.trans hpr
    have hns : s.Nodup := hsr.nodup_iff.2 hnr
    have sV : TV s := by
      refine ⟨fun x hx => hr.1 x (hsr.mem_iff.1 hx), ?_⟩
      have h2 := hsort.and hns
      refine List.Pairwise.imp_of_mem ?_ h2
      rintro a b ha hb ⟨h3, h4⟩
      rw [cmpP_lt] at h3
      by_cases c : pLt a.fPrefix b.fPrefix
      · exact c
      · have hpe := pLt_tri (hr.R a (hsr.mem_iff.1 ha)) (hr.R b (hsr.mem_iff.1 hb)) c h3
        have e1 := tget_mem hr (hsr.mem_iff.1 ha)
        have e2 := tget_mem hr (hsr.mem_iff.1 hb)
        rw [hpe, e2] at e1
        refine (h4 ?_).elim
        obtain ⟨ap, av⟩ := a
        obtain ⟨bp, bv⟩ := b
        simp only at hpe e1
        rw [hpe, Option.some.inj e1]
    congr 1
    refine tget_ext sV hr fun q => Option.ext fun v => ?_
    rw [tget_iff sV, tget_iff hr, hsr.mem_iff]
/-- both sides aggregate alike -/
theorem agg_tot {t : List api_Entry} (h : TV t) (hl : t.length ≤ 1000000) : ∃ r, TV r ∧ r.length ≤ t.length ∧ tget r = JJ 128 (tget t) ∧ table_Aggregate t = some (AggL r) ∧ exchangepointref03_Aggregate t = some (AggL r) := by
  obtain ⟨r, e, r1, r2, r3⟩ := ref_levels h hl
  refine ⟨r, r1, r2, r3, ?_, ?_⟩
  · refine Tot.eq ?_
    unfold table_Aggregate
    refine Tot.bindT (code_map h (by omega)) fun m hm => Tot.bindT (code_levels hm (tget_dom h)) fun m2 hm2 => ?_
    rw [← r3] at hm2
    refine ⟨_, mapAll_of fun p hp => ?_, rfl⟩
    obtain ⟨s1, s2, s3⟩ := sort_map r1 (by omega) hm2 hp
    refine bind_of s1 (bind_of s2 ?_)
    refine Tot.eq (Tot.chk (by rw [s3]; simp) ?_)
    have e2 : (r.drop 0).take (p.map fun q => api_Entry.mk q.1 q.2).length = r := by
      rw [s3, List.drop_zero, List.take_length]
    rw [e2]
    have e3 : loop (table_Aggregate_L3 (p.map fun q => api_Entry.mk q.1 q.2)) (r, (0 : Int), ([] : List api_Entry)) = loop (table_Aggregate_L3 r) (r, (0 : Int), ([] : List api_Entry)) := by
      congr 1
      funext s
      unfold table_Aggregate_L3
      rw [s3]
    rw [e3]
    exact Tot.bindT (code_keep (n := r.length) r1 rfl (by omega)) fun x hx => Tot.some hx
  · refine Tot.eq ?_
    unfold exchangepointref03_Aggregate
    refine Tot.chk (limB (by omega)) (Tot.bindOf e (Tot.bindT (ref_keep r1 (by omega)) fun x hx => Tot.some hx))

end Go.Proofs.Ytbkhigkknhlmhaa
