/- Chapter 41 in plain Lean: adding a line, as a recursion; what is consistent. -/
import Derived.Test.YtimcphncaffenaaPureC
namespace Go.Proofs.Ytimcphncaffenaa
open Go Go.Vc

/-- where the document's answer puts a port -/
theorem add_place {l : List api_Line} {x : api_Line} (hl : l.length ≤ 1000000) (hs : portsUp l) :
    Tot (loop (exchangepointref41_add_L0 l x) 0) (fun r => ∃ k : Nat, r = (k : Int) ∧ Go.Proofs.Ytimcphncaffenaa.At l x.fPort k) := by
  refine Tot.loop (fun s : Int => ∃ k : Nat, s = (k : Int) ∧ k ≤ l.length ∧ ∀ i (h : i < l.length), i < k → l[i].fPort < x.fPort) (fun s => l.length - s.toNat) _ ?_ ⟨0, rfl, Nat.zero_le _, fun i _ h => by omega⟩
  rintro _ ⟨k, rfl, hk, h1⟩
  unfold exchangepointref41_add_L0
  refine Tot.jnR (fun b : Bool => (b = true → ∃ h : k < l.length, l[k].fPort < x.fPort) ∧ (b = false → ∀ (h : k < l.length), x.fPort ≤ l[k].fPort)) (fun j hj => ?_) ?_
  · refine Tot.ite (fun hc => ?_) (fun hc => ?_)
    · have hc := of_decide_eq_true hc
      have hkl : k < l.length := by omega
      refine Tot.bindIdx k rfl hkl (hj _ ⟨fun h => ⟨hkl, of_decide_eq_true h⟩, fun h _ => ?_⟩)
      have := of_decide_eq_false h
      omega
    · have hc := of_decide_eq_false hc
      exact hj _ ⟨fun h => (by cases h), fun _ h => by omega⟩
  · rintro b ⟨hb1, hb2⟩
    refine Tot.ite (fun hb => ?_) (fun hb => ?_)
    · obtain ⟨hkl, hx⟩ := hb1 hb
      rw [cast_succ_w hkl (by omega)]
      refine Tot.next ⟨k + 1, rfl, hkl, fun i h hi => ?_⟩ (by simp only [Int.toNat_natCast]; omega)
      by_cases he : i = k
      · subst he; exact hx
      · exact h1 i h (by omega)
    · refine Tot.out ⟨k, rfl, hk, h1, fun i h hi => ?_⟩
      have h2 := hb2 hb (by omega)
      by_cases he : i = k
      · subst he; exact h2
      · have := sorted_get hs (show k < l.length by omega) h (by omega); omega

theorem add_ref {l : List api_Line} {x : api_Line} (sg : Int) (hl : l.length ≤ 100000) (hs : portsUp l) :
    Tot (exchangepointref41_add l x sg) (fun r => ∃ k : Nat, Go.Proofs.Ytimcphncaffenaa.At l x.fPort k ∧ ∃ h : k < (roomF l x.fPort k).length, r = (roomF l x.fPort k).set k (upLine (roomF l x.fPort k)[k] x sg)) := by
  unfold exchangepointref41_add
  refine Tot.bindT (add_place (by omega) hs) ?_
  rintro _ ⟨k, rfl, hk⟩
  have hkl := hk.1
  simp only [Int.toNat_natCast, List.drop_zero, List.take_length]
  have htl : (l.take k).length = k := by rw [List.length_take]; omega
  refine Tot.chk (by simp only [Bool.and_eq_true, decide_eq_true_eq]; omega) ?_
  refine Tot.chk (decide_eq_true (show _ ≤ 4294967296 by omega)) ?_
  refine Tot.jnR (fun b : Bool => b = true ↔ ∃ h : k < l.length, l[k].fPort = x.fPort) (fun j hj => ?_) ?_
  · refine Tot.ite (fun hc => ?_) (fun hc => ?_)
    · have hc := of_decide_eq_true hc
      have hkk : k < l.length := by omega
      refine Tot.bindIdx k rfl hkk (hj _ ?_)
      rw [beq_iff_eq]
      exact ⟨fun h => ⟨hkk, h⟩, fun ⟨_, h⟩ => h⟩
    · have hc := of_decide_eq_false hc
      exact hj _ ⟨fun h => (by cases h), fun ⟨h, _⟩ => by omega⟩
  · intro b hb
    refine Tot.jnR (fun m : Int × Int × Int => ∃ q : Nat, m.1 = (q : Int) ∧ q ≤ l.length ∧ q ≤ k + 1 ∧ ∃ h : k < (roomF l x.fPort k).length, l.take k ++ [⟨x.fPort, m.2.1, m.2.2⟩] ++ l.drop q = (roomF l x.fPort k).set k (upLine (roomF l x.fPort k)[k] x sg)) (fun j hj => ?_) ?_
    · refine Tot.ite (fun hc => ?_) (fun hc => ?_)
      · obtain ⟨hkk, he⟩ := hb.1 hc
        have hroom : roomF l x.fPort k = l := by
          unfold roomF; rw [if_pos (by rw [List.getElem?_eq_getElem hkk, Option.map_some, he])]
        refine Tot.bindIdx k rfl hkk (Tot.bindIdx k rfl hkk ?_)
        rw [cast_succ_w hkk (by omega)]
        refine hj _ ⟨k + 1, rfl, by omega, by omega, by rw [hroom]; exact hkk, ?_⟩
        simp only [hroom, upLine]
        rw [List.set_eq_take_append_cons_drop, if_pos hkk, he, Int.add_comm (w64 (sg * x.fUsed)), Int.add_comm (w64 (sg * x.fAmount))]
        simp
      · have hnb : ¬ ∃ h : k < l.length, l[k].fPort = x.fPort := fun h => by rw [hb.2 h] at hc; cases hc
        have hroom : roomF l x.fPort k = l.take k ++ [⟨x.fPort, 0, 0⟩] ++ l.drop k := by
          unfold roomF
          rw [if_neg]
          intro h
          by_cases hkk : k < l.length
          · rw [List.getElem?_eq_getElem hkk] at h
            exact hnb ⟨hkk, by simpa using h⟩
          · rw [List.getElem?_eq_none (by omega)] at h
            cases h
        refine hj _ ⟨k, rfl, hkl, by omega, by rw [hroom]; simp only [List.length_append, htl, List.length_cons, List.length_nil]; omega, ?_⟩
        simp only [hroom, upLine]
        have hg : (l.take k ++ [(⟨x.fPort, 0, 0⟩ : api_Line)] ++ l.drop k)[k]'(by simp only [List.length_append, htl, List.length_cons, List.length_nil]; omega) = ⟨x.fPort, 0, 0⟩ := by
          rw [List.getElem_append_left (by simp only [List.length_append, htl, List.length_cons, List.length_nil]; omega), List.getElem_append_right (by omega)]
          simp [htl]
        rw [hg]
        simp only [w64_zero_add]
        rw [List.set_append_left _ _ (by simp only [List.length_append, htl, List.length_cons, List.length_nil]; omega), List.set_append_right _ _ (by omega)]
        simp [htl]
    · rintro ⟨_, u, v⟩ ⟨q, rfl, hq, hq2, hroom, e⟩
      simp only [Int.toNat_natCast]
      refine Tot.chk (decide_eq_true (show _ ≤ 4294967296 by simp only [List.length_append, htl, List.length_cons, List.length_nil]; omega)) ?_
      refine Tot.chk (by simp only [Bool.and_eq_true, decide_eq_true_eq]; omega) ?_
      refine Tot.chk (decide_eq_true (show _ ≤ 4294967296 by simp only [List.length_append, htl, List.length_cons, List.length_nil, List.length_drop]; omega)) ?_
      exact Tot.some ⟨k, hk, hroom, e⟩

theorem add_same {l : List api_Line} {x : api_Line} (sg : Int) (hl : l.length ≤ 100000) (hs : portsUp l) (hi : portsIn l) (hp : 0 ≤ x.fPort ∧ x.fPort ≤ 1000000) :
    ∃ k : Nat, Go.Proofs.Ytimcphncaffenaa.At l x.fPort k ∧ ∃ h : k < (roomF l x.fPort k).length, invoice_sums_add_2 l x sg = some ⟨(roomF l x.fPort k).set k (upLine (roomF l x.fPort k)[k] x sg)⟩ ∧
      exchangepointref41_add l x sg = some ((roomF l x.fPort k).set k (upLine (roomF l x.fPort k)[k] x sg)) := by
  obtain ⟨⟨r⟩, e, k, hk, hr, h⟩ := add_eq sg hl hs hi hp
  obtain ⟨r', e', k', hk', hr', h'⟩ := add_ref sg hl hs
  have hkk := hk.uniq hk'
  subst hkk
  simp only at h
  subst h h'
  exact ⟨k, hk, hr, e, e'⟩

theorem copy_eq {s : api_Series} (h1 : s.fIn.length ≤ 1000000) (h2 : s.fOut.length ≤ 1000000) : exchangepointref40_Copy s = some s := by
  refine Tot.eq ?_
  unfold exchangepointref40_Copy
  exact Tot.chk (decide_eq_true (show s.fIn.length ≤ 4294967296 by omega)) (Tot.chk (decide_eq_true (show s.fOut.length ≤ 4294967296 by omega)) (Tot.some rfl))
theorem copy_eq2 {s : api_Series} (h1 : s.fIn.length ≤ 1000000) (h2 : s.fOut.length ≤ 1000000) : exchangepointref40_Copy_2 s = some s := copy_eq h1 h2
theorem copy_eq3 {s : api_Series} (h1 : s.fIn.length ≤ 1000000) (h2 : s.fOut.length ≤ 1000000) : exchangepointref40_Copy_3 s = some s := copy_eq h1 h2
theorem put_ref (s : api_Series) (hl : s.fIn.length ≤ 1000000) (at' x y : Int) : exchangepointref40_Put s at' x y = some (PutF s at' x y) := by
  refine Tot.eq ?_
  unfold exchangepointref40_Put PutF
  refine Tot.bindT (valid_ref s hl) fun b hb => ?_
  refine Tot.ite (fun h => ?_) (fun h => ?_)
  · have : ¬ VOk s := fun v => by rw [hb.2 v] at h; cases h
    rw [if_neg this]; exact Tot.some rfl
  have v : VOk s := hb.1 (by simpa using h)
  rw [if_pos v]
  have l1 := v.len; have l2 := v.most
  refine Tot.ite (fun h => ?_) (fun h => ?_)
  · rw [if_pos (by simpa using h)]; exact Tot.some rfl
  have hat : ¬ (at' < 0 ∨ (s.fIn.length : Int) < at') := by simp only [Bool.or_eq_false_iff, decide_eq_false_iff_not] at h; omega
  rw [if_neg hat]
  obtain ⟨k, rfl⟩ : ∃ k : Nat, at' = k := ⟨at'.toNat, by omega⟩
  have hk : k ≤ s.fIn.length := by omega
  refine Tot.bindOf (copy_eq3 hl (by omega)) ?_
  refine Tot.jnR (fun m : List Int × List Int => k < m.1.length ∧ k < m.2.length ∧ m.1.set k y = put1 s.fOut k y ∧ m.2.set k x = put1 s.fIn k x) (fun j hj => ?_) (fun m hm => ?_)
  · refine Tot.ite (fun c => ?_) (fun c => ?_)
    · obtain rfl : k = s.fIn.length := by simp at c; omega
      refine Tot.chk (by simp [LIM]; omega) (Tot.chk (by simp [LIM]; omega) (hj _ ⟨by simp; omega, by simp, ?_, put1_app _ _ _⟩))
      rw [l1]; exact put1_app _ _ _
    · have hlt : k < s.fIn.length := by
        have : k ≠ s.fIn.length := fun e => by rw [e] at c; simp at c
        omega
      exact hj _ ⟨by simp only; omega, hlt, by unfold put1; rw [if_neg (by omega)], by unfold put1; rw [if_neg (by omega)]⟩
  · obtain ⟨m1, m2, m3, m4⟩ := hm
    refine Tot.bindIdx k rfl m2 (Tot.bindIdx k rfl m2 (Tot.bindIdx k rfl m1 (Tot.bindIdx k rfl m1 ?_)))
    simp only [Int.toNat_natCast, List.drop_zero]
    rw [List.take_of_length_le (by simp), List.take_of_length_le (by simp), m3, m4]
    refine Tot.bindT (valid_ref _ (by have := put1_len s.fIn k x; simp only; omega)) fun b hb => ?_
    refine Tot.ite (fun h => ?_) (fun h => ?_)
    · rw [if_neg fun v => by rw [hb.2 v] at h; cases h]; exact Tot.some rfl
    · rw [if_pos (hb.1 (by simpa using h))]; exact Tot.some rfl

def AddF (x : api_Line) (sg : Int) : List api_Line → List api_Line
  | [] => [upLine ⟨x.fPort, 0, 0⟩ x sg]
  | y :: r => if y.fPort < x.fPort then y :: AddF x sg r else if y.fPort = x.fPort then upLine y x sg :: r else upLine ⟨x.fPort, 0, 0⟩ x sg :: y :: r

theorem up_tail {y : api_Line} {r : List api_Line} (h : portsUp (y :: r)) : portsUp r := by
  unfold portsUp at h ⊢
  rw [List.map_cons, List.pairwise_cons] at h
  exact h.2
theorem up_head {y : api_Line} {r : List api_Line} (h : portsUp (y :: r)) : ∀ z ∈ r, y.fPort < z.fPort := fun z hz => by
  unfold portsUp at h
  rw [List.map_cons, List.pairwise_cons] at h
  exact h.1 _ (List.mem_map_of_mem (f := fun x : api_Line => x.fPort) hz)
theorem up_cons {y : api_Line} {r : List api_Line} (h : portsUp r) (h' : ∀ z ∈ r, y.fPort < z.fPort) : portsUp (y :: r) := by
  unfold portsUp at h ⊢
  rw [List.map_cons, List.pairwise_cons]
  refine ⟨fun p hp => ?_, h⟩
  obtain ⟨z, hz, rfl⟩ := List.mem_map.1 hp
  exact h' z hz

theorem addF_room {x : api_Line} {sg : Int} : ∀ {l : List api_Line} {k : Nat}, Go.Proofs.Ytimcphncaffenaa.At l x.fPort k → ∀ h : k < (roomF l x.fPort k).length, (roomF l x.fPort k).set k (upLine (roomF l x.fPort k)[k] x sg) = AddF x sg l
  | [], k, ha, h => by
    have hk : k = 0 := by have := ha.1; simp at this; omega
    subst hk
    have : roomF [] x.fPort 0 = [⟨x.fPort, 0, 0⟩] := by unfold roomF; simp
    simp only [this]
    rfl
  | y :: r, k, ha, h => by
    obtain ⟨a1, a2, a3⟩ := ha
    unfold AddF
    cases k with
    | zero =>
      have h0 := a3 0 (by simp) (Nat.le_refl _)
      simp only [List.getElem_cons_zero] at h0
      rw [if_neg (by omega)]
      by_cases he : y.fPort = x.fPort
      · rw [if_pos he]
        have : roomF (y :: r) x.fPort 0 = y :: r := by unfold roomF; simp [he]
        simp only [this, List.set_cons_zero, List.getElem_cons_zero]
      · rw [if_neg he]
        have : roomF (y :: r) x.fPort 0 = ⟨x.fPort, 0, 0⟩ :: y :: r := by unfold roomF; simp [he]
        simp only [this, List.set_cons_zero, List.getElem_cons_zero]
    | succ k =>
      have h0 := a2 0 (by simp) (by omega)
      simp only [List.getElem_cons_zero] at h0
      rw [if_pos h0]
      have ha' : Go.Proofs.Ytimcphncaffenaa.At r x.fPort k := ⟨by simp only [List.length_cons] at a1; omega, fun i hi hik => by have := a2 (i + 1) (by simp only [List.length_cons]; omega) (by omega); simpa using this, fun i hi hik => by have := a3 (i + 1) (by simp only [List.length_cons]; omega) (by omega); simpa using this⟩
      have hroom : roomF (y :: r) x.fPort (k + 1) = y :: roomF r x.fPort k := by
        unfold roomF
        rw [List.getElem?_cons_succ]
        split
        · rfl
        · simp
      have hk : k < (roomF r x.fPort k).length := by rw [hroom] at h; simpa using h
      rw [← addF_room ha' hk]
      simp only [hroom, List.set_cons_succ, List.getElem_cons_succ]

theorem add_prog {l : List api_Line} {x : api_Line} (sg : Int) (hl : l.length ≤ 100000) (hs : portsUp l) (hi : portsIn l) (hp : 0 ≤ x.fPort ∧ x.fPort ≤ 1000000) :
    invoice_sums_add_2 l x sg = some ⟨AddF x sg l⟩ ∧ exchangepointref41_add l x sg = some (AddF x sg l) := by
  obtain ⟨k, hk, hr, e1, e2⟩ := add_same sg hl hs hi hp
  rw [addF_room hk hr] at e1 e2
  exact ⟨e1, e2⟩

theorem upLine_port (y x : api_Line) (sg : Int) : (upLine y x sg).fPort = y.fPort := rfl
theorem addF_mem {x : api_Line} {sg : Int} : ∀ {l : List api_Line} {p : Int}, p ∈ (AddF x sg l).map (fun z => z.fPort) ↔ p = x.fPort ∨ p ∈ l.map (fun z => z.fPort)
  | [], p => by unfold AddF; simp [upLine]
  | y :: r, p => by
    unfold AddF
    by_cases h1 : y.fPort < x.fPort
    · rw [if_pos h1, List.map_cons, List.mem_cons, addF_mem, List.map_cons, List.mem_cons]
      constructor
      · rintro (h | h | h)
        · exact .inr (.inl h)
        · exact .inl h
        · exact .inr (.inr h)
      · rintro (h | h | h)
        · exact .inr (.inl h)
        · exact .inl h
        · exact .inr (.inr h)
    · rw [if_neg h1]
      by_cases h2 : y.fPort = x.fPort
      · rw [if_pos h2, List.map_cons, List.mem_cons, List.map_cons, List.mem_cons, upLine_port, h2]
        constructor
        · rintro (h | h)
          · exact .inl h
          · exact .inr (.inr h)
        · rintro (h | h | h)
          · exact .inl h
          · exact .inl h
          · exact .inr h
      · rw [if_neg h2, List.map_cons, List.mem_cons]
        rfl
theorem addF_up {x : api_Line} {sg : Int} : ∀ {l : List api_Line}, portsUp l → portsUp (AddF x sg l)
  | [], _ => by unfold AddF portsUp; simp
  | y :: r, h => by
    unfold AddF
    by_cases h1 : y.fPort < x.fPort
    · rw [if_pos h1]
      refine up_cons (addF_up (up_tail h)) fun z hz => ?_
      have := (addF_mem (x := x) (sg := sg) (l := r)).1 (List.mem_map_of_mem (f := fun z : api_Line => z.fPort) hz)
      rcases this with e | hm
      · omega
      · obtain ⟨w, hw, e⟩ := List.mem_map.1 hm
        have := up_head h w hw
        omega
    · rw [if_neg h1]
      by_cases h2 : y.fPort = x.fPort
      · rw [if_pos h2]
        exact up_cons (up_tail h) fun z hz => by rw [upLine_port]; exact up_head h z hz
      · rw [if_neg h2]
        refine up_cons h fun z hz => ?_
        rw [upLine_port]
        simp only
        rcases List.mem_cons.1 hz with rfl | hz
        · omega
        · have := up_head h z hz; omega
theorem addF_len {x : api_Line} {sg : Int} : ∀ {l : List api_Line}, (AddF x sg l).length ≤ l.length + 1
  | [] => by unfold AddF; simp
  | y :: r => by
    unfold AddF
    have := addF_len (x := x) (sg := sg) (l := r)
    split
    · simp only [List.length_cons]; omega
    · split
      · simp only [List.length_cons]; omega
      · simp only [List.length_cons]; omega
theorem addF_in {x : api_Line} {sg : Int} {l : List api_Line} (h : portsIn l) (hp : 0 ≤ x.fPort ∧ x.fPort ≤ 1000000) : portsIn (AddF x sg l) := fun z hz => by
  rcases addF_mem.1 (List.mem_map_of_mem (f := fun z : api_Line => z.fPort) hz) with e | hm
  · rw [e]; exact hp
  · obtain ⟨w, hw, e⟩ := List.mem_map.1 hm
    have := h w hw
    rw [← e]; exact this

-- what is at a port
def valF (l : List api_Line) (p : Int) : Int × Int := match l with
  | [] => (0, 0)
  | y :: r => if y.fPort = p then (y.fUsed, y.fAmount) else valF r p
theorem valF_out {l : List api_Line} {p : Int} (h : ∀ z ∈ l, z.fPort ≠ p) : valF l p = (0, 0) := by
  induction l with
  | nil => rfl
  | cons y r ih =>
    unfold valF
    rw [if_neg (h y (List.mem_cons_self ..))]
    exact ih fun z hz => h z (List.mem_cons_of_mem _ hz)
theorem addF_val {x : api_Line} {sg : Int} : ∀ {l : List api_Line}, portsUp l → ∀ p, valF (AddF x sg l) p = if p = x.fPort then (w64 ((valF l p).1 + w64 (sg * x.fUsed)), w64 ((valF l p).2 + w64 (sg * x.fAmount))) else valF l p
  | [], _, p => by
    unfold AddF
    by_cases h : p = x.fPort
    · have e1 : valF [upLine ⟨x.fPort, 0, 0⟩ x sg] p = (w64 (0 + w64 (sg * x.fUsed)), w64 (0 + w64 (sg * x.fAmount))) := by
        rw [valF, upLine_port, if_pos h.symm]; rfl
      rw [e1, if_pos h]; rfl
    · have e1 : valF [upLine ⟨x.fPort, 0, 0⟩ x sg] p = (0, 0) := by
        rw [valF, upLine_port, if_neg (fun e => h e.symm)]; rfl
      rw [e1, if_neg h]; rfl
  | y :: r, hu, p => by
    unfold AddF
    by_cases h1 : y.fPort < x.fPort
    · rw [if_pos h1]
      by_cases hp : y.fPort = p
      · unfold valF
        rw [if_pos hp, if_pos hp, if_neg (by omega)]
      · have e1 : valF (y :: AddF x sg r) p = valF (AddF x sg r) p := by rw [valF, if_neg hp]
        have e2 : valF (y :: r) p = valF r p := by rw [valF, if_neg hp]
        rw [e1, e2, addF_val (up_tail hu)]
    · rw [if_neg h1]
      by_cases h2 : y.fPort = x.fPort
      · rw [if_pos h2]
        by_cases hp : y.fPort = p
        · have e1 : valF (upLine y x sg :: r) p = ((upLine y x sg).fUsed, (upLine y x sg).fAmount) := by rw [valF, upLine_port, if_pos hp]
          have e2 : valF (y :: r) p = (y.fUsed, y.fAmount) := by rw [valF, if_pos hp]
          rw [e1, e2, if_pos (by omega)]
          rfl
        · have e1 : valF (upLine y x sg :: r) p = valF r p := by rw [valF, upLine_port, if_neg hp]
          have e2 : valF (y :: r) p = valF r p := by rw [valF, if_neg hp]
          rw [e1, e2, if_neg (by omega)]
      · rw [if_neg h2]
        by_cases hp : p = x.fPort
        · have e1 : valF (upLine ⟨x.fPort, 0, 0⟩ x sg :: y :: r) p = (w64 (0 + w64 (sg * x.fUsed)), w64 (0 + w64 (sg * x.fAmount))) := by
            rw [valF, upLine_port, if_pos hp.symm]; rfl
          have e2 : valF (y :: r) p = (0, 0) := valF_out fun z hz => by
            rcases List.mem_cons.1 hz with rfl | hz
            · omega
            · have := up_head hu z hz; omega
          rw [e1, e2, if_pos hp]
        · rw [if_neg hp, valF, upLine_port, if_neg (fun e => hp e.symm)]
/-- lines are what is at their ports -/
theorem val_ext : ∀ {l m : List api_Line}, portsUp l → portsUp m → l.map (fun z => z.fPort) = m.map (fun z => z.fPort) → (∀ p ∈ l.map (fun z => z.fPort), valF l p = valF m p) → l = m
  | [], [], _, _, _, _ => rfl
  | [], _ :: _, _, _, h, _ => by simp at h
  | _ :: _, [], _, _, h, _ => by simp at h
  | y :: r, z :: s, hy, hz, h, hv => by
    rw [List.map_cons, List.map_cons] at h
    obtain ⟨h1, h2⟩ := List.cons.inj h
    have e0 := hv y.fPort (by simp)
    rw [valF, if_pos rfl, valF, if_pos h1.symm] at e0
    have hyz : y = z := by
      obtain ⟨a, b, c⟩ := y
      obtain ⟨a', b', c'⟩ := z
      simp only [Prod.mk.injEq] at e0 h1
      obtain ⟨rfl, rfl⟩ := e0
      subst h1
      rfl
    subst hyz
    rw [val_ext (up_tail hy) (up_tail hz) h2 fun p hp => by
      have e := hv p (List.mem_cons_of_mem _ hp)
      have hne : y.fPort ≠ p := fun e => by
        obtain ⟨w, hw, e'⟩ := List.mem_map.1 hp
        have := up_head hy w hw
        omega
      rw [valF, if_neg hne, valF, if_neg hne] at e
      exact e]

-- sums
def sumA (l : List api_Line) : Int := (l.map (fun x => x.fAmount)).sum
theorem w64_mod (n : Int) : w64 n = (n + 9223372036854775808) % 18446744073709551616 - 9223372036854775808 := by
  unfold w64
  rw [IntKind.wrap_i64]
  try omega
theorem w64_add_l (a b : Int) : w64 (w64 a + b) = w64 (a + b) := by
  rw [w64_mod, w64_mod a, w64_mod (a + b)]
  omega
theorem w64_add_r (a b : Int) : w64 (a + w64 b) = w64 (a + b) := by
  rw [Int.add_comm a, w64_add_l, Int.add_comm]
theorem w64_w64 (a : Int) : w64 (w64 a) = w64 a := by
  have := w64_add_l a 0
  simpa using this
theorem totF_sum (l : List api_Line) : totF l = w64 (sumA l) := by
  have key : ∀ (l : List api_Line) (a : Int), l.foldl (fun a x => w64 (a + x.fAmount)) (w64 a) = w64 (a + sumA l) := by
    intro l
    induction l with
    | nil => intro a; simp [sumA]
    | cons y r ih =>
      intro a
      rw [List.foldl_cons, w64_add_l, ih]
      unfold sumA
      rw [List.map_cons, List.sum_cons, Int.add_assoc]
  have h0 : w64 0 = 0 := w64_id (by omega) (by omega)
  have := key l 0
  rw [h0, Int.zero_add] at this
  exact this
theorem addF_sum {x : api_Line} {sg : Int} : ∀ {l : List api_Line}, w64 (sumA (AddF x sg l)) = w64 (sumA l + sg * x.fAmount)
  | [] => by
    unfold AddF sumA upLine
    simp only [List.map_cons, List.map_nil, List.sum_cons, List.sum_nil, Int.add_zero]
    rw [w64_w64, w64_add_r]
  | y :: r => by
    unfold AddF
    have ih := addF_sum (x := x) (sg := sg) (l := r)
    have hs : ∀ (z : api_Line) (s : List api_Line), sumA (z :: s) = z.fAmount + sumA s := fun z s => by unfold sumA; rw [List.map_cons, List.sum_cons]
    split
    · rw [hs, hs, ← w64_add_r, ih, w64_add_r]
      congr 1; omega
    · split
      · rw [hs, hs]
        simp only [upLine]
        rw [w64_add_l, Int.add_right_comm, w64_add_r]
      · rw [hs, hs]
        simp only [upLine, Int.zero_add]
        rw [w64_w64, w64_add_l]
        congr 1; omega
theorem addF_tot {x : api_Line} {sg : Int} {l : List api_Line} : totF (AddF x sg l) = w64 (totF l + sg * x.fAmount) := by
  rw [totF_sum, totF_sum, addF_sum, w64_add_l]
end Go.Proofs.Ytimcphncaffenaa
