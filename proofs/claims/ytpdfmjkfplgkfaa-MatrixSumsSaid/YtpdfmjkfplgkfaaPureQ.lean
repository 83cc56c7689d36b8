/- Chapter 38 in plain Lean: dealt samples; the example; MatrixEstimates -/
import Derived.Test.YtpdfmjkfplgkfaaPureO
namespace Go.Proofs.Ytpdfmjkfplgkfaa
open Go Go.Vc

theorem own_rules (turn : Int) {q : Int} (h1 : 1 ≤ q) (h6 : q ≤ 6) : ownF (RulesL turn) q = some (101 + w64 ((q - 1) + turn) % 3) := by
  have e : q = 1 ∨ q = 2 ∨ q = 3 ∨ q = 4 ∨ q = 5 ∨ q = 6 := by omega
  have hr : RulesL turn = [ruleAt turn 0, ruleAt turn 1, ruleAt turn 2, ruleAt turn 3, ruleAt turn 4, ruleAt turn 5] := rfl
  rw [hr]
  rcases e with rfl | rfl | rfl | rfl | rfl | rfl <;> simp [ownF, ruleAt]
theorem ownD_rules (turn : Int) {q : Int} (h1 : 1 ≤ q) (h6 : q ≤ 6) : ownD (RulesL turn) q = 101 + w64 ((q - 1) + turn) % 3 := by
  unfold ownD; rw [own_rules turn h1 h6]; rfl
theorem ownD_range (turn : Int) {q : Int} (h1 : 1 ≤ q) (h6 : q ≤ 6) : 101 ≤ ownD (RulesL turn) q ∧ ownD (RulesL turn) q ≤ 103 := by
  rw [ownD_rules turn h1 h6]
  have := emod_lt' (w64 ((q - 1) + turn)) (show (0 : Int) < 3 by decide)
  omega
theorem rules_len (turn : Int) : (RulesL turn).length = 6 := rfl

/-- samples as they are dealt -/
def dealt (s : api_Sample) : Prop := (1 ≤ s.fIn ∧ s.fIn ≤ 6) ∧ (1 ≤ s.fOut ∧ s.fOut ≤ 6) ∧ (0 ≤ s.fBytes ∧ s.fBytes ≤ 1600) ∧ (0 ≤ s.fTick ∧ s.fTick ≤ 200)
structure Fine (l : List api_Sample) : Prop where
  ok : Ok l
  len : l.length ≤ 15
  all : ∀ s ∈ l, dealt s
theorem Fine.sub {l m : List api_Sample} (h : Fine l) (hs : m.Sublist l) : Fine m :=
  ⟨⟨fun s hm => h.ok.1 s (hs.subset hm), h.ok.2.sublist hs⟩, Nat.le_trans hs.length_le h.len, fun s hm => h.all s (hs.subset hm)⟩
theorem cells_fine (turn : Int) {l : List api_Sample} (h : Fine l) : CellsF l (RulesL turn) = (putAll [] (l.map (cellOf (RulesL turn))), 0) := by
  have hlen := h.len
  unfold CellsF
  rw [if_pos ⟨h.ok, by omega⟩, if_pos, if_pos]
  · rw [List.all_eq_true]
    intro s hs
    obtain ⟨h1, h2, _⟩ := h.all s hs
    have r1 := ownD_range turn h1.1 h1.2
    have r2 := ownD_range turn h2.1 h2.2
    have n1 : num (ownD (RulesL turn) s.fIn) := ⟨by omega, by omega⟩
    have n2 : num (ownD (RulesL turn) s.fOut) := ⟨by omega, by omega⟩
    unfold good
    rw [decide_eq_true n1, decide_eq_true n2]
    rfl
  · rw [List.all_eq_true]
    intro s hs
    obtain ⟨h1, h2, _⟩ := h.all s hs
    unfold owned
    rw [own_rules turn h1.1 h1.2, own_rules turn h2.1 h2.2]
    rfl

theorem next_tot (d : exchangepointmill_Deck) (hd : DeckOk d) (n : Int) (hn : 0 < n) (hn' : n ≤ 4611686018427387904) : Tot (exchangepointmill_Deck_Next d n) (fun x => 0 ≤ x.1 ∧ x.1 < n ∧ DeckOk x.2) := by
  obtain ⟨r, d', e, h⟩ := next_eq d hd n hn hn'
  exact ⟨_, e, h⟩
theorem new_ok (l : List Int) (hl : l.length ≤ 9223372036854775807) : DeckOk ⟨l, 0⟩ := ⟨Int.le_refl _, by simp only; omega, hl⟩

theorem samples_tot (d : exchangepointmill_Deck) (hd : DeckOk d) : Tot (exchangepointmill_Deck_Samples d) (fun x => Fine x.1 ∧ DeckOk x.2) := by
  unfold exchangepointmill_Deck_Samples
  refine Tot.bindT (next_tot d hd 100 (by omega) (by omega)) ?_
  rintro ⟨t0, d⟩ ⟨t1, t2, hd⟩
  refine Tot.bindT (next_tot d hd 9 (by omega) (by omega)) ?_
  rintro ⟨q0, d⟩ ⟨q1, q2, hd⟩
  refine Tot.bindT (next_tot d hd 1000 (by omega) (by omega)) ?_
  rintro ⟨p0, d⟩ ⟨p1, p2, hd⟩
  refine Tot.bindT (next_tot d hd 16 (by omega) (by omega)) ?_
  rintro ⟨k0, d⟩ ⟨k1, k2, hd⟩
  simp only at t1 t2 q1 q2 p1 p2 k1 k2 hd ⊢
  refine Tot.bindLoop (fun s : Int × Int × Int × Int × Int × Int × Int × List api_Sample × exchangepointmill_Deck => 0 ≤ s.1 ∧ s.1 + s.2.2.2.2.2.2.2.1.length ≤ 15 ∧ DeckOk s.2.2.2.2.2.2.2.2 ∧ (Ok s.2.2.2.2.2.2.2.1 ∧ ∀ e ∈ s.2.2.2.2.2.2.2.1, dealt e) ∧
      (0 ≤ s.2.1 ∧ s.2.1 ≤ 100 + 5 * s.2.2.2.2.2.2.2.1.length) ∧ (0 ≤ s.2.2.1 ∧ s.2.2.1 ≤ 9 + 3 * s.2.2.2.2.2.2.2.1.length) ∧ (0 ≤ s.2.2.2.1 ∧ s.2.2.2.1 ≤ 1000 + 53 * s.2.2.2.2.2.2.2.1.length) ∧
      ∀ e ∈ s.2.2.2.2.2.2.2.1, e.fTick ≤ s.2.1 ∧ e.fSeq ≤ s.2.2.1 ∧ s.2.2.1 - e.fSeq ≤ s.2.2.2.1 - e.fPool) (fun s => s.1.toNat)
      (fun x => (Ok x.2 ∧ ∀ e ∈ x.2, dealt e) ∧ x.2.length ≤ 15 ∧ DeckOk x.1) ⟨k1, by simp; omega, hd, ⟨ok_nil, fun e he => by cases he⟩, ⟨t1, by simp; omega⟩, ⟨q1, by simp; omega⟩, ⟨p1, by simp; omega⟩, fun e he => by cases he⟩ ?_ (fun x hx => Tot.some ⟨⟨hx.1.1, hx.2.1, hx.1.2⟩, hx.2.2⟩)
  rintro ⟨k, t, q, p, i, o, b, l, d⟩ ⟨h1, h2, hd, ⟨hok, hall⟩, ht, hq, hp, he⟩
  simp only at h1 h2 hd hok hall ht hq hp he
  unfold exchangepointmill_Deck_Samples_L0
  simp only
  refine Tot.ite (fun c => ?_) (fun c => ?_)
  · have hk : 0 < k := by simpa using c
    refine Tot.bindT (next_tot d hd 3 (by omega) (by omega)) ?_
    rintro ⟨r1, d⟩ ⟨a1, b1, hd⟩
    refine Tot.bindT (next_tot d hd 5 (by omega) (by omega)) ?_
    rintro ⟨r2, d⟩ ⟨a2, b2, hd⟩
    refine Tot.bindT (next_tot d hd 50 (by omega) (by omega)) ?_
    rintro ⟨r3, d⟩ ⟨a3, b3, hd⟩
    refine Tot.bindT (next_tot d hd 6 (by omega) (by omega)) ?_
    rintro ⟨r4, d⟩ ⟨a4, b4, hd⟩
    refine Tot.bindT (next_tot d hd 6 (by omega) (by omega)) ?_
    rintro ⟨r5, d⟩ ⟨a5, b5, hd⟩
    refine Tot.bindT (next_tot d hd 1500 (by omega) (by omega)) ?_
    rintro ⟨r6, d⟩ ⟨a6, b6, hd⟩
    simp only at a1 b1 a2 b2 a3 b3 a4 b4 a5 b5 a6 b6 hd ⊢
    simp (disch := omega) only [w64_id]
    have hL : ∀ x : api_Sample, (l ++ [x]).length = l.length + 1 := fun x => by simp
    refine Tot.chk (by simp [LIM]; omega) (Tot.next ⟨by simp only; omega, by simp only [hL]; omega, hd, ⟨⟨fun s hs => ?_, ?_⟩, fun s hs => ?_⟩, ⟨by simp only; omega, by simp only [hL]; omega⟩, ⟨by simp only; omega, by simp only [hL]; omega⟩, ⟨by simp only; omega, by simp only [hL]; omega⟩, fun e h => ?_⟩ (by simp only; omega))
    · rcases List.mem_append.1 hs with hs | hs
      · exact hok.1 s hs
      · rw [List.mem_singleton.1 hs]; unfold sOk; simp only; omega
    · simp only
      rw [List.pairwise_append]
      refine ⟨hok.2, List.pairwise_singleton _ _, fun x hx y hy => ?_⟩
      rw [List.mem_singleton.1 hy]
      have := he x hx
      unfold after
      simp only
      omega
    · rcases List.mem_append.1 hs with hs | hs
      · exact hall s hs
      · rw [List.mem_singleton.1 hs]; unfold dealt; simp only; omega
    · simp only at h ⊢
      rcases List.mem_append.1 h with h | h
      · have := he e h; omega
      · rw [List.mem_singleton.1 h]; simp only; omega
  · exact Tot.out ⟨⟨hok, hall⟩, by simp only; omega, hd⟩

def exL : List api_Sample := [api_Sample.mk 0 1 1 1 2 100, api_Sample.mk 0 2 9 1 2 300]
theorem ex_fine : Fine exL where
  ok := ⟨fun s hs => by
      simp only [exL, List.mem_cons, List.not_mem_nil, or_false] at hs
      rcases hs with rfl | rfl <;> (unfold sOk; decide), by
      simp [exL, after]⟩
  len := by decide
  all := fun s hs => by
    simp only [exL, List.mem_cons, List.not_mem_nil, or_false] at hs
    rcases hs with rfl | rfl <;> (unfold dealt; decide)
theorem ex_cells : CellsF exL (RulesL 0) = ([api_Cell.mk 101 102 2 400], 0) := by
  rw [cells_fine 0 ex_fine]
  have e1 : ownD (RulesL 0) 1 = 101 := by rw [ownD_rules 0 (by decide) (by decide), w64_id (by decide) (by decide)]; rfl
  have e2 : ownD (RulesL 0) 2 = 102 := by rw [ownD_rules 0 (by decide) (by decide), w64_id (by decide) (by decide)]; rfl
  simp only [exL, List.map_cons, List.map_nil, cellOf, e1, e2, putAll, List.foldl_cons, List.foldl_nil, PutL, mixC]
  rw [if_neg (by unfold cLt; decide), if_neg (by unfold cLt; decide)]
  simp only [w64_id (n := 1 + 1) (by decide) (by decide), w64_id (n := 300 + 100) (by decide) (by decide)]
  rfl
theorem ex_est : EstF (api_Cell.mk 101 102 2 400) 2 1000 = (200000, 0) := by
  unfold EstF
  rw [if_pos ⟨by decide, by decide, by decide, by decide, by decide, by decide, by decide, by decide⟩, if_neg (by decide)]
  rfl
theorem awake_eq : exchangepointlaw38_awake = some true := by
  unfold exchangepointlaw38_awake
  refine bind_of (rules_eq 0) (bind_of (cells_eq exL _ (by decide) (by decide)) ?_)
  rw [ex_cells]
  refine ite_of_f rfl (bind_of (idx_get (k := 0) rfl) (bind_of (est_tot _ _ _) (bind_of (idx_get (k := 0) rfl) ?_)))
  rw [ex_est]
  rfl

theorem estimates_L1 (a0 : api_Cell) (r1 r2 : Int) (x81 : List Int) (h2 : x81.length = 2) : loop (exchangepointlaw38_MatrixEstimates_L1 a0 r1 r2 x81) (0 : Int) = some (.inr ()) := by
  refine Tot.eq (Tot.rng 2 (fun k (_ : Unit) => ((k : Nat) : Int)) (fun _ _ => True) _ () rfl trivial (fun k b hk _ => ?_) (fun b _ => ?_))
  · unfold exchangepointlaw38_MatrixEstimates_L1
    have hw : w64 ((k : Int) + 1) = ((k + 1 : Nat) : Int) := by rw [w64_id (by omega) (by omega)]; rfl
    refine Tot.iteT (by simp; omega) (Tot.bindIdx k rfl (by simpa using hk) ?_)
    refine Tot.bindIdx 0 rfl (by omega) (Tot.bindIdx 1 rfl (by omega) (Tot.bindOf (est_tot _ _ _) ?_))
    refine Tot.bindIdx 0 rfl (by omega) (Tot.bindIdx 1 rfl (by omega) (Tot.bindOf (ref_est _ _ _) ?_))
    exact Tot.iteF (by simp) (Tot.step () hw trivial)
  · unfold exchangepointlaw38_MatrixEstimates_L1
    exact Tot.iteF (by simp) (Tot.last rfl)
theorem estimates_law (a0 : api_Cell) {p0 : Prop} (_ : p0) (a1 : Int) {p1 : Prop} (_ : p1) (a2 : Int) {p2 : Prop} (_ : p2) : exchangepointlaw38_MatrixEstimates a0 a1 a2 = some true := by
  refine Tot.eq ?_
  unfold exchangepointlaw38_MatrixEstimates
  refine Tot.bindOf (mod_eq _ 30 (by decide) (by decide)) (Tot.bindOf (mod_eq _ 2147483648 (by decide) (by decide)) (Tot.bindOf (mod_eq _ 40 (by decide) (by decide)) (Tot.bindOf (mod_eq _ 2199023255552 (by decide) (by decide)) (Tot.bindOf (mod_eq _ 2097152 (by decide) (by decide)) (Tot.bindOf (mod_eq _ 3000 (by decide) (by decide)) ?_)))))
  refine Tot.bindRng 3 (fun k (_ : Unit) => ((k : Nat) : Int)) (fun _ _ => True) (fun x => x = .inr ()) () rfl trivial (fun k b hk _ => ?_) (fun b _ => ?_) (fun x hx => ?_)
  · unfold exchangepointlaw38_MatrixEstimates_L0
    have hw : w64 ((k : Int) + 1) = ((k + 1 : Nat) : Int) := by rw [w64_id (by omega) (by omega)]; rfl
    refine Tot.iteT (by simp; omega) (Tot.bindIdx k rfl (by simpa using hk) (Tot.bindOf (estimates_L1 _ _ _ _ ?_) (Tot.step () hw trivial)))
    have e : k = 0 ∨ k = 1 ∨ k = 2 := by omega
    rcases e with rfl | rfl | rfl <;> rfl
  · unfold exchangepointlaw38_MatrixEstimates_L0
    exact Tot.iteF (by simp) (Tot.last rfl)
  · subst hx
    exact Tot.bindOf awake_eq (Tot.some rfl)

end Go.Proofs.Ytpdfmjkfplgkfaa
