/- Chapter 38 in plain Lean: sums over cells, and which sorted list a sum is. -/
import Derived.Test.YtpdfmjkfplgkfaaPureR
namespace Go.Proofs.Ytpdfmjkfplgkfaa
open Go Go.Vc

def S (f : api_Cell → Int) : List api_Cell → Int
  | [] => 0
  | c :: l => f c + S f l
theorem S_app (f : api_Cell → Int) (b : List api_Cell) : ∀ a, S f (a ++ b) = S f a + S f b
  | [] => by simp [S]
  | x :: a => by simp only [List.cons_append, S, S_app f b a]; omega
abbrev fS (c : api_Cell) : Int := c.fSamples
abbrev fB (c : api_Cell) : Int := c.fBytes
abbrev fM (c : api_Cell) : Int := c.fSamples + c.fBytes
def pos (l : List api_Cell) : Prop := ∀ x ∈ l, 1 ≤ x.fSamples ∧ 0 ≤ x.fBytes
theorem pos_cons {x : api_Cell} {l : List api_Cell} (h : pos (x :: l)) : (1 ≤ x.fSamples ∧ 0 ≤ x.fBytes) ∧ pos l := ⟨h x List.mem_cons_self, fun y hy => h y (List.mem_cons_of_mem _ hy)⟩
theorem S_M (l : List api_Cell) : S fM l = S fS l + S fB l := by
  induction l with
  | nil => rfl
  | cons x l ih => simp only [S, ih, fM, fS, fB]; omega
theorem S_pos : ∀ {l : List api_Cell}, pos l → 0 ≤ S fS l ∧ 0 ≤ S fB l ∧ (l.length : Int) ≤ S fS l
  | [], _ => ⟨Int.le_refl _, Int.le_refl _, Int.le_refl _⟩
  | x :: l, h => by
    obtain ⟨h1, h2⟩ := pos_cons h
    have := S_pos h2
    simp only [S, fS, fB, List.length_cons] at *
    omega
theorem S_mem : ∀ {l : List api_Cell}, pos l → ∀ {x}, x ∈ l → fS x ≤ S fS l ∧ fB x ≤ S fB l
  | [], _, x, hx => by cases hx
  | y :: l, h, x, hx => by
    obtain ⟨h1, h2⟩ := pos_cons h
    have h3 := S_pos h2
    rcases List.mem_cons.1 hx with rfl | hx
    · simp only [S, fS, fB] at *; omega
    · have h4 := S_mem h2 hx
      simp only [S, fS, fB] at *; omega
/-- what adds up when cells are mixed -/
def Adds (f : api_Cell → Int) : Prop := ∀ c x : api_Cell, keyOf x = keyOf c → 1 ≤ c.fSamples → 1 ≤ x.fSamples → 0 ≤ c.fBytes → 0 ≤ x.fBytes → fM c + fM x ≤ 4611686018427387904 → f (mixC c x) = f c + f x
theorem adds_S : Adds fS := fun c x _ h1 h2 h3 h4 h5 => by
  simp only [fM] at h5
  show w64 (c.fSamples + x.fSamples) = _
  rw [w64_id (by omega) (by omega)]
theorem adds_B : Adds fB := fun c x _ h1 h2 h3 h4 h5 => by
  simp only [fM] at h5
  show w64 (c.fBytes + x.fBytes) = _
  rw [w64_id (by omega) (by omega)]
theorem adds_M : Adds fM := fun c x hk h1 h2 h3 h4 h5 => by
  have := adds_S c x hk h1 h2 h3 h4 h5
  have := adds_B c x hk h1 h2 h3 h4 h5
  simp only [fM, fS, fB] at *
  omega
instance (a b : matrix_pair) : Decidable (a = b) := by
  obtain ⟨a1, a2⟩ := a
  obtain ⟨b1, b2⟩ := b
  exact decidable_of_iff (a1 = b1 ∧ a2 = b2) (by simp)
def atK (k : matrix_pair) (f : api_Cell → Int) (c : api_Cell) : Int := if keyOf c = k then f c else 0
theorem adds_at {f : api_Cell → Int} (h : Adds f) (k : matrix_pair) : Adds (atK k f) := fun c x hk h1 h2 h3 h4 h5 => by
  have e : keyOf (mixC c x) = keyOf c := rfl
  unfold atK
  rw [e, hk]
  split
  · exact h c x hk h1 h2 h3 h4 h5
  · rfl
theorem putL_S {f : api_Cell → Int} (hf : Adds f) (c : api_Cell) (hc : 1 ≤ c.fSamples ∧ 0 ≤ c.fBytes) : ∀ {l : List api_Cell}, pos l → S fM l + fM c ≤ 4611686018427387904 → S f (PutL l c) = S f l + f c
  | [], _, _ => by simp [PutL, S]
  | x :: l, h, hb => by
    obtain ⟨h1, h2⟩ := pos_cons h
    have h3 := S_pos h2
    have h4 := S_M l
    have h5 : S fM (x :: l) = fM x + S fM l := rfl
    have h6 : fM x = x.fSamples + x.fBytes := rfl
    unfold PutL
    split
    · have := putL_S hf c hc h2 (by omega)
      simp only [S, this]; omega
    · split
      · simp only [S]; omega
      · rename_i g1 g2
        have := hf c x (cLt_key g1 g2) hc.1 h1.1 hc.2 h1.2 (by omega)
        simp only [S, this]; omega
theorem putL_cases {c x : api_Cell} : ∀ {l : List api_Cell}, x ∈ PutL l c → x ∈ l ∨ x = c ∨ ∃ y ∈ l, x = mixC c y
  | [], h => .inr (.inl (by simpa [PutL] using h))
  | y :: l, h => by
    unfold PutL at h
    split at h
    · rcases List.mem_cons.1 h with rfl | h
      · exact .inl List.mem_cons_self
      · rcases putL_cases h with g | g | ⟨z, hz, g⟩
        · exact .inl (List.mem_cons_of_mem _ g)
        · exact .inr (.inl g)
        · exact .inr (.inr ⟨z, List.mem_cons_of_mem _ hz, g⟩)
    · split at h
      · rcases List.mem_cons.1 h with rfl | h
        · exact .inr (.inl rfl)
        · exact .inl h
      · rcases List.mem_cons.1 h with rfl | h
        · exact .inr (.inr ⟨y, List.mem_cons_self, rfl⟩)
        · exact .inl (List.mem_cons_of_mem _ h)
theorem putL_pos {c : api_Cell} (hc : 1 ≤ c.fSamples ∧ 0 ≤ c.fBytes) {l : List api_Cell} (h : pos l) (hb : S fM l + fM c ≤ 4611686018427387904) : pos (PutL l c) := fun x hx => by
  rcases putL_cases hx with g | rfl | ⟨y, hy, rfl⟩
  · exact h x g
  · exact hc
  · have h1 := h y hy
    have h2 := S_mem h hy
    have h3 := S_M l
    have e1 : fM c = c.fSamples + c.fBytes := rfl
    have e2 : fS y = y.fSamples := rfl
    have e3 : fB y = y.fBytes := rfl
    have hp := S_pos h
    show 1 ≤ w64 (c.fSamples + y.fSamples) ∧ 0 ≤ w64 (c.fBytes + y.fBytes)
    rw [w64_id (by omega) (by omega), w64_id (by omega) (by omega)]
    omega
theorem putAll_S : ∀ (cs l : List api_Cell), pos l → pos cs → S fM l + S fM cs ≤ 4611686018427387904 → pos (putAll l cs) ∧ ∀ f, Adds f → S f (putAll l cs) = S f l + S f cs
  | [], l, h, _, _ => ⟨h, fun f _ => by simp [putAll, S]⟩
  | c :: cs, l, h, hc, hb => by
    obtain ⟨h1, h2⟩ := pos_cons hc
    have h5 : S fM (c :: cs) = fM c + S fM cs := rfl
    have h3 := S_pos h2
    have h4 := S_M cs
    have hb1 : S fM l + fM c ≤ 4611686018427387904 := by omega
    have e1 := putL_S adds_M c h1 h hb1
    obtain ⟨g1, g2⟩ := putAll_S cs (PutL l c) (putL_pos h1 h hb1) h2 (by omega)
    refine ⟨g1, fun f hf => ?_⟩
    show S f (putAll (PutL l c) cs) = _
    rw [g2 f hf, putL_S hf c h1 h hb1]
    show S f l + f c + S f cs = S f l + (f c + S f cs)
    omega
theorem putAll_sorted : ∀ (cs l : List api_Cell), l.Pairwise cLt → (putAll l cs).Pairwise cLt
  | [], _, h => h
  | c :: cs, l, h => putAll_sorted cs (PutL l c) (putL_sorted c h)
theorem putAll_keys (P : matrix_pair → Prop) : ∀ (cs l : List api_Cell), (∀ c ∈ l, P (keyOf c)) → (∀ c ∈ cs, P (keyOf c)) → ∀ c ∈ putAll l cs, P (keyOf c)
  | [], _, h, _ => h
  | c :: cs, l, h, hc => putAll_keys P cs (PutL l c) (fun x hx => by
      rcases putL_cases hx with g | rfl | ⟨y, hy, rfl⟩
      · exact h x g
      · exact hc _ List.mem_cons_self
      · exact hc c List.mem_cons_self) (fun x hx => hc x (List.mem_cons_of_mem _ hx))
theorem S_at_none (f : api_Cell → Int) (k : matrix_pair) : ∀ {l : List api_Cell}, (∀ y ∈ l, keyOf y ≠ k) → S (atK k f) l = 0
  | [], _ => rfl
  | y :: l, h => by
    have h1 := S_at_none f k (l := l) fun z hz => h z (List.mem_cons_of_mem _ hz)
    have h2 : atK k f y = 0 := if_neg (h y List.mem_cons_self)
    simp only [S, h1, h2]; rfl
theorem S_at_mem (f : api_Cell → Int) : ∀ {l : List api_Cell}, l.Pairwise cLt → ∀ {x}, x ∈ l → S (atK (keyOf x) f) l = f x
  | [], _, x, hx => by cases hx
  | y :: l, h, x, hx => by
    rw [List.pairwise_cons] at h
    rcases List.mem_cons.1 hx with rfl | hx
    · have h1 := S_at_none f (keyOf x) (l := l) fun z hz e => key_cLt e.symm (h.1 z hz)
      have h2 : atK (keyOf x) f x = f x := if_pos rfl
      simp only [S, h1, h2]; omega
    · have h1 := S_at_mem f h.2 hx
      have h2 : atK (keyOf x) f y = 0 := if_neg fun e => key_cLt e (h.1 x hx)
      simp only [S, h1, h2]; omega
theorem sub_of_S {l m : List api_Cell} (hl : l.Pairwise cLt) (hm : m.Pairwise cLt) (pl : pos l) (h1 : ∀ k, S (atK k fS) l = S (atK k fS) m) (h2 : ∀ k, S (atK k fB) l = S (atK k fB) m) {x : api_Cell} (hx : x ∈ l) : x ∈ m := by
  have a1 := h1 (keyOf x)
  have a2 := h2 (keyOf x)
  rw [S_at_mem fS hl hx] at a1
  rw [S_at_mem fB hl hx] at a2
  have hp := pl x hx
  by_cases hy : ∃ y ∈ m, keyOf y = keyOf x
  · obtain ⟨y, hy, hk⟩ := hy
    rw [← hk, S_at_mem fS hm hy] at a1
    rw [← hk, S_at_mem fB hm hy] at a2
    have : x = y := by
      obtain ⟨x1, x2, x3, x4⟩ := x
      obtain ⟨y1, y2, y3, y4⟩ := y
      simp only [keyOf, matrix_pair.mk.injEq, fS, fB] at hk a1 a2
      simp [hk, a1, a2]
    rw [this]; exact hy
  · rw [S_at_none fS (keyOf x) (l := m) fun y hm' e => hy ⟨y, hm', e⟩] at a1
    simp only [fS] at a1
    omega
theorem eq_of_S {l m : List api_Cell} (hl : l.Pairwise cLt) (hm : m.Pairwise cLt) (pl : pos l) (pm : pos m) (h1 : ∀ k, S (atK k fS) l = S (atK k fS) m) (h2 : ∀ k, S (atK k fB) l = S (atK k fB) m) : l = m :=
  sorted_unique (fun x y a b => cLt_irr x (cLt_trans a b)) hl hm fun _ => ⟨sub_of_S hl hm pl h1 h2, sub_of_S hm hl pm (fun k => (h1 k).symm) (fun k => (h2 k).symm)⟩

theorem sumW_fold : ∀ (l : List api_Cell) (u v : Int), pos l → 0 ≤ u → 0 ≤ v → u + v + S fM l ≤ 4611686018427387904 → l.foldl stepW (u, v) = (u + S fS l, v + S fB l)
  | [], u, v, _, _, _, _ => by simp [S]
  | x :: l, u, v, h, hu, hv, hb => by
    obtain ⟨h1, h2⟩ := pos_cons h
    have h3 := S_pos h2
    have h4 := S_M l
    have h5 : S fM (x :: l) = (x.fSamples + x.fBytes) + S fM l := rfl
    have e : stepW (u, v) x = (u + x.fSamples, v + x.fBytes) := by
      unfold stepW
      simp only
      rw [w64_id (by omega) (by omega), w64_id (by omega) (by omega)]
    rw [List.foldl_cons, e, sumW_fold l _ _ h2 (by omega) (by omega) (by omega)]
    simp only [S, fS, fB, Int.add_assoc]
theorem sumW_S {l : List api_Cell} (h : pos l) (hb : S fM l ≤ 4611686018427387904) : SumW l = (S fS l, S fB l) := by
  unfold SumW
  rw [sumW_fold l 0 0 h (by decide) (by decide) (by omega)]
  simp
theorem S_filter3 (f g : api_Cell → Int) : ∀ {l : List api_Cell}, (∀ c ∈ l, 101 ≤ g c ∧ g c ≤ 103) → S f l = S f (l.filter fun c => g c == 101) + S f (l.filter fun c => g c == 102) + S f (l.filter fun c => g c == 103)
  | [], _ => rfl
  | x :: l, h => by
    have ih := S_filter3 f g (l := l) fun c hc => h c (List.mem_cons_of_mem _ hc)
    have h1 := h x List.mem_cons_self
    have e : g x = 101 ∨ g x = 102 ∨ g x = 103 := by omega
    rcases e with e | e | e <;> simp [List.filter_cons, e, S] <;> omega
theorem S_part {α : Type} (f : api_Cell → Int) (g : α → api_Cell) (p q : α → Bool) : ∀ {l : List α}, (∀ s ∈ l, q s = !p s) → S f (l.map g) = S f ((l.filter p).map g) + S f ((l.filter q).map g)
  | [], _ => rfl
  | x :: l, h => by
    have ih := S_part f g p q (l := l) fun c hc => h c (List.mem_cons_of_mem _ hc)
    have h1 := h x List.mem_cons_self
    cases hp : p x <;> rw [hp] at h1 <;> simp [List.filter_cons, hp, h1, S] <;> omega
theorem S_le_sub (f : api_Cell → Int) (p : api_Cell → Bool) : ∀ {l : List api_Cell}, (∀ c ∈ l, 0 ≤ f c) → S f (l.filter p) ≤ S f l
  | [], _ => Int.le_refl _
  | x :: l, h => by
    have ih := S_le_sub f p (l := l) fun c hc => h c (List.mem_cons_of_mem _ hc)
    have h1 := h x List.mem_cons_self
    cases hp : p x <;> simp [List.filter_cons, hp, S] <;> omega
theorem pos_filter {l : List api_Cell} (p : api_Cell → Bool) (h : pos l) : pos (l.filter p) := fun x hx => h x (List.mem_filter.1 hx).1
theorem valid_of {l : List api_Cell} (hs : l.Pairwise cLt) (hp : pos l) (hn : ∀ c ∈ l, cnum c) (hb : S fM l ≤ 1000000) (hl : l.length ≤ 1024) : ValidF l = true := by
  refine validF_iff.2 ⟨⟨fun c hc => ?_, hs⟩, hl⟩
  have h1 := hp c hc
  have h2 := S_mem hp hc
  have h3 := S_M l
  have h4 := S_pos hp
  have e2 : fS c = c.fSamples := rfl
  have e3 : fB c = c.fBytes := rfl
  unfold cOk
  exact ⟨hn c hc, ⟨h1.1, by omega⟩, ⟨h1.2, by omega⟩⟩

/-- the matrix of samples that are dealt -/
noncomputable abbrev cs (turn : Int) (l : List api_Sample) : List api_Cell := l.map (cellOf (RulesL turn))
noncomputable abbrev mat (turn : Int) (l : List api_Sample) : List api_Cell := putAll [] (cs turn l)
theorem cs_pos {turn : Int} {l : List api_Sample} (h : Fine l) : pos (cs turn l) := fun x hx => by
  obtain ⟨s, hs, rfl⟩ := List.mem_map.1 hx
  have := (h.all s hs).2.2.1
  show 1 ≤ (1 : Int) ∧ 0 ≤ s.fBytes
  omega
theorem cs_S (turn : Int) : ∀ {l : List api_Sample}, (∀ s ∈ l, dealt s) → S fS (cs turn l) = l.length ∧ S fB (cs turn l) ≤ 1600 * l.length
  | [], _ => ⟨rfl, Int.le_refl _⟩
  | s :: l, h => by
    have ih := cs_S turn (l := l) fun x hx => h x (List.mem_cons_of_mem _ hx)
    have h1 := (h s List.mem_cons_self).2.2.1
    have e1 : S fS (cs turn (s :: l)) = 1 + S fS (cs turn l) := rfl
    have e2 : S fB (cs turn (s :: l)) = s.fBytes + S fB (cs turn l) := rfl
    simp only [List.length_cons]
    omega
theorem cs_key {turn : Int} {l : List api_Sample} (h : Fine l) : ∀ c ∈ cs turn l, (101 ≤ (keyOf c).ffrom ∧ (keyOf c).ffrom ≤ 103) ∧ (101 ≤ (keyOf c).fto ∧ (keyOf c).fto ≤ 103) := fun x hx => by
  obtain ⟨s, hs, rfl⟩ := List.mem_map.1 hx
  obtain ⟨h1, h2, _⟩ := h.all s hs
  exact ⟨ownD_range turn h1.1 h1.2, ownD_range turn h2.1 h2.2⟩
structure MatOk (m : List api_Cell) (n b : Int) : Prop where
  sorted : m.Pairwise cLt
  pos : pos m
  keys : ∀ c ∈ m, (101 ≤ c.fFrom ∧ c.fFrom ≤ 103) ∧ (101 ≤ c.fTo ∧ c.fTo ≤ 103)
  sumS : S fS m = n
  sumB : S fB m = b
theorem mat_ok (turn : Int) {l : List api_Sample} (h : Fine l) : MatOk (mat turn l) l.length (S fB (cs turn l)) ∧ ∀ f, Adds f → S f (mat turn l) = S f (cs turn l) := by
  have h1 := cs_S turn h.all
  have h2 := h.len
  have h3 := S_M (cs turn l)
  have h0 : S fM ([] : List api_Cell) = 0 := rfl
  have hno : pos [] := fun _ hx => by cases hx
  obtain ⟨g1, g2⟩ := putAll_S (cs turn l) [] hno (cs_pos h) (by omega)
  have g3 : ∀ f, Adds f → S f (mat turn l) = S f (cs turn l) := fun f hf => by
    have := g2 f hf
    simpa [S] using this
  refine ⟨⟨putAll_sorted _ _ List.Pairwise.nil, g1, ?_, by rw [g3 _ adds_S, h1.1], g3 _ adds_B⟩, g3⟩
  exact putAll_keys (fun k => (101 ≤ k.ffrom ∧ k.ffrom ≤ 103) ∧ (101 ≤ k.fto ∧ k.fto ≤ 103)) _ [] (fun _ hx => by cases hx) (cs_key h)
theorem MatOk.len {m : List api_Cell} {n b : Int} (h : MatOk m n b) : (m.length : Int) ≤ n := by
  have := S_pos h.pos
  have := h.sumS
  omega
theorem MatOk.num {m : List api_Cell} {n b : Int} (h : MatOk m n b) : ∀ c ∈ m, cnum c := fun c hc => by
  have := h.keys c hc
  unfold cnum Ytpdfmjkfplgkfaa.num
  omega
end Go.Proofs.Ytpdfmjkfplgkfaa
