/- Maps: blocks of entries; making, looking up, storing. -/
import Derived.Test.YtgfoabcickjphaaGreatDoorVcZ
import Derived.MapKept
namespace Go.Vc
open Go
variable {P : Program} {B : Base} {ops : Array Oper}
def DV (Z : Nat → Prop) (w : World) (x : D) (v : Value) : Prop := ∃ cs, v = valOf x.isAgg cs ∧ D.rep Z w x cs
theorem DV.ext {Z Z' : Nat → Prop} {w w' : World} (hx : Ext Z Z' w w') {x : D} {v : Value} (h : DV Z w x v) : DV Z' w' x v := by
 obtain ⟨cs, h1, h2⟩ := h; exact ⟨cs, h1, D.rep_ext hx x cs h2⟩
theorem DV.to {ob : Obs} {σ : Nat → Option Nat} {Z : Nat → Prop} {w : World} {x : D} {v : Value} (h : DV Z w x v) : RepT ob σ Z w v (.d x) := by
 obtain ⟨cs, rfl, h2⟩ := h
 exact RepT.of (RepV.of_cells (x := .d x) h2 (D.rep_len x cs h2) (D.rep_one x cs h2) x.isAgg rfl) rfl
def MapL (Z : Nat → Prop) (w : World) : List (D × D) → List MapEntry → Prop
 | [], [] => True
 | p :: ps, e :: es => (DV Z w p.1 e.key ∧ DV Z w p.2 e.val) ∧ MapL Z w ps es
 | _, _ => False
theorem MapL.ext {Z Z' : Nat → Prop} {w w' : World} (hx : Ext Z Z' w w') : ∀ {ps : List (D × D)} {es : List MapEntry}, MapL Z w ps es → MapL Z' w' ps es
 | [], [], _ => trivial
 | _ :: _, _ :: _, h => ⟨⟨h.1.1.ext hx, h.1.2.ext hx⟩, h.2.ext hx⟩
 | [], _ :: _, h => h.elim
 | _ :: _, [], h => h.elim
theorem MapL.len {Z : Nat → Prop} {w : World} : ∀ {ps : List (D × D)} {es : List MapEntry}, MapL Z w ps es → es.length = ps.length
 | [], [], _ => rfl
 | _ :: _, _ :: _, h => by simp [h.2.len]
 | [], _ :: _, h => h.elim
 | _ :: _, [], h => h.elim
structure Stamps (es : List MapEntry) (clock : Nat) : Prop where
 apart : (es.map (·.born)).Nodup
 below : ∀ e ∈ es, e.born < clock
def mapB (ps : List (D × D)) : Blk where
 holds Z w b := ∃ (ents : Array MapEntry) (clock : Nat), w.heap[b]? = some (.map ents clock) ∧ MapL Z w ps ents.toList ∧ Stamps ents.toList clock
 move hx hb h := by
  obtain ⟨ents, clock, h1, h2, h3⟩ := h
  exact ⟨ents, clock, hb.trans h1, h2.ext hx, h3⟩
 lt h := by
  obtain ⟨ents, clock, h1, _⟩ := h
  exact (Array.getElem?_eq_some_iff.1 h1).1
-- keys
structure KeyEq (P : Program) (kt : TypeId) {α : Type} (f : α → D) (eq : α → α → Bool) : Prop where
 fit : ∃ h, h ≤ 10000 ∧ ∀ a b, FitE P h kt (f a) (f b) (eq a b)
 same : ∀ a b, eq a b = true → f a = f b
theorem FitE.agg {h : Nat} {t : TypeId} {x y : D} {b : Bool} (e : FitE P h t x y b) : x.isAgg = y.isAgg := by cases e <;> rfl
theorem run_equal {kt : TypeId} {α : Type} {f : α → D} {eq : α → α → Bool} (hk : KeyEq P kt f eq) {Z Z' : Nat → Prop} {w w1 w2 : World} {a b : α} {va vb : Value} (ha : DV Z w1 (f a) va) (hb : DV Z' w2 (f b) vb) : (Op.equal kt va vb).run P w = .ok (eq a b) w := by
 obtain ⟨h, hh, hf⟩ := hk.fit
 obtain ⟨c1, rfl, r1⟩ := ha
 obtain ⟨c2, rfl, r2⟩ := hb
 exact (hf a b).run (w := w) (d := Op.maxDepth) hh r1 r2
def mix {α β : Type} (eq : α → α → Bool) (k : α) : List (α × β) → Option (Nat × β)
 | [] => none
 | p :: l => if eq k p.1 = true then some (0, p.2) else (mix eq k l).map fun q => (q.1 + 1, q.2)
def mget {α β : Type} (eq : α → α → Bool) (l : List (α × β)) (k : α) : Option β := (mix eq k l).map (·.2)
def mput {α β : Type} (eq : α → α → Bool) : List (α × β) → α → β → List (α × β)
 | [], k, v => [(k, v)]
 | p :: l, k, v => if eq k p.1 = true then (p.1, v) :: l else p :: mput eq l k v
def mpairs {α β : Type} (f : α → D) (g : β → D) (l : List (α × β)) : List (D × D) := l.map fun p => (f p.1, g p.2)
theorem ask_run {kt : TypeId} {α β : Type} {f : α → D} {g : β → D} {eq : α → α → Bool} (hk : KeyEq P kt f eq) {Z Z' : Nat → Prop} {w w1 w2 : World} {k : α} {kv : Value} (hkv : DV Z' w2 (f k) kv) :
  ∀ {l : List (α × β)} {es : List MapEntry} {i : Nat}, MapL Z w1 (mpairs f g l) es → ∃ r, (Instr.findAsking kt kv es i).run P w = .ok r w ∧
   match mix eq k l with
   | none => r = none
   | some (j, b) => ∃ v, r = some (i + j, v) ∧ DV Z w1 (g b) v
 | [], [], i, _ => ⟨none, by simp [Instr.findAsking], rfl⟩
 | p :: l, e :: es, i, h => by
  obtain ⟨⟨h1, h2⟩, h3⟩ := h
  have he := run_equal hk (w := w) hkv h1
  obtain ⟨r, hr, hm⟩ := ask_run hk (w := w) hkv (i := i + 1) h3
  unfold mix
  cases hc : eq k p.1 with
  | true =>
   rw [hc] at he
   refine ⟨some (i, e.val), by simp [Instr.findAsking, he, Result.andThen], ?_⟩
   rw [if_pos rfl]
   exact ⟨e.val, rfl, h2⟩
  | false =>
   rw [hc] at he
   refine ⟨r, by simp [Instr.findAsking, he, Result.andThen, hr], ?_⟩
   rw [if_neg (by simp)]
   cases hq : mix eq k l with
   | none => rw [hq] at hm; exact hm
   | some q =>
    rw [hq] at hm
    obtain ⟨v, h4, h5⟩ := hm
    exact ⟨v, by rw [h4]; simp; omega, h5⟩
 | [], _ :: _, _, h => h.elim
 | _ :: _, [], _, h => h.elim
theorem now_spec {kt : TypeId} {kd : TypeDesc} (hu : P.underlying kt = some kd) {α β : Type} {f : α → D} {g : β → D} {eq : α → α → Bool} (hk : KeyEq P kt f eq) {Z Z' : Nat → Prop} {w1 w2 : World} {k : α} {kv : Value} (hkv : DV Z' w2 (f k) kv) :
  ∀ {l : List (α × β)} {es : List MapEntry} {i : Nat} {r : Option (Nat × Value)}, MapL Z w1 (mpairs f g l) es → Instr.findNow kd kv es i = some r →
   match mix eq k l with
   | none => r = none
   | some (j, b) => ∃ v, r = some (i + j, v) ∧ DV Z w1 (g b) v
 | [], [], i, r, _, hr => by
  simp only [Instr.findNow, Option.some.injEq] at hr
  exact hr.symm
 | p :: l, e :: es, i, r, h, hr => by
  obtain ⟨⟨h1, h2⟩, h3⟩ := h
  obtain ⟨hh, _, hf⟩ := hk.fit
  have hfe := hf k p.1
  obtain ⟨c1, rfl, r1⟩ := hkv
  have h1 : DV Z w1 (f p.1) e.key := h1
  obtain ⟨c2, e2, r2⟩ := h1
  have hs : Instr.sameNow kd (valOf (f k).isAgg c1) e.key = some (eq k p.1) ∨ Instr.sameNow kd (valOf (f k).isAgg c1) e.key = none := by
   rw [e2]
   generalize f k = x at *
   generalize f p.1 = y at *
   generalize eq k p.1 = b at *
   cases hfe with
   | bool a b' hu' => cases hu.symm.trans hu'; cases r1; cases r2; left; simp [Instr.sameNow, valOf, D.isAgg]
   | @int _ _ q kk a b' hu' => cases hu.symm.trans hu'; cases r1; cases r2; left; simp [Instr.sameNow, valOf, D.isAgg]
   | str a b' hu' =>
    cases hu.symm.trans hu'; cases r1; cases r2; left
    have hb : ((⟨a.toArray⟩ : ByteArray) == ⟨b'.toArray⟩) = (a == b') := by
     show (a.toArray == b'.toArray) = (a == b')
     simp
    simp [Instr.sameNow, valOf, D.isAgg, hb]
   | st hu' hl hs hff => cases hu.symm.trans hu'; right; simp [Instr.sameNow]
  unfold mix
  rcases hs with hs | hs
  ·cases hc : eq k p.1 with
   | true =>
    rw [hc] at hs
    simp only [Instr.findNow, hs, Option.some.injEq] at hr
    rw [if_pos rfl]
    exact ⟨e.val, hr.symm, h2⟩
   | false =>
    rw [hc] at hs
    simp only [Instr.findNow, hs] at hr
    have ih := now_spec hu hk (Z' := Z') (w2 := w2) ⟨c1, rfl, r1⟩ (i := i + 1) h3 hr
    rw [if_neg (by simp)]
    cases hq : mix eq k l with
    | none => rw [hq] at ih; exact ih
    | some q =>
     rw [hq] at ih
     obtain ⟨v, h4, h5⟩ := ih
     exact ⟨v, by rw [h4]; simp; omega, h5⟩
  ·simp [Instr.findNow, hs] at hr
 | [], _ :: _, _, _, h, _ => h.elim
 | _ :: _, [], _, _, h, _ => h.elim
theorem find_run {kt : TypeId} {kd : TypeDesc} (hu : P.underlying kt = some kd) {α β : Type} {f : α → D} {g : β → D} {eq : α → α → Bool} (hk : KeyEq P kt f eq) {Z Z' : Nat → Prop} {w w1 w2 : World} {k : α} {kv : Value} (hkv : DV Z' w2 (f k) kv)
  {l : List (α × β)} {es : List MapEntry} (h : MapL Z w1 (mpairs f g l) es) : ∃ r, (Instr.findKey kt kv es).run P w = .ok r w ∧
   match mix eq k l with
   | none => r = none
   | some (j, b) => ∃ v, r = some (j, v) ∧ DV Z w1 (g b) v := by
 unfold Instr.findKey
 simp only [Sem.run_bind, run_underlying hu, Result.andThen_ok]
 cases hn : Instr.findNow kd kv es 0 with
 | some r =>
  refine ⟨r, by simp, ?_⟩
  have := now_spec hu hk hkv h hn
  simpa only [Nat.zero_add] using this
 | none =>
  obtain ⟨r, h1, h2⟩ := ask_run hk (w := w) hkv (i := 0) h
  refine ⟨r, by simpa using h1, ?_⟩
  simpa only [Nat.zero_add] using h2
-- a key may be one
mutual
theorem FitE.check {Z : Nat → Prop} {w w1 : World} (em : Bool) : ∀ {h : Nat} {t : TypeId} {x y : D} {b : Bool}, FitE P h t x y b → ∀ {d : Nat}, h ≤ d → ∀ {cs : List Value}, D.rep Z w1 x cs → (Instr.checkKey em d t (valOf x.isAgg cs)).run P w = .ok () w
 | _, _, _, _, _, .bool a b hu, d, hd, cs, hx => by
  obtain ⟨d, rfl⟩ : ∃ e, d = e + 1 := ⟨d - 1, by omega⟩
  cases hx
  simp [Instr.checkKey, valOf, D.isAgg, run_underlying hu]
 | _, _, _, _, _, .int a b hu, d, hd, cs, hx => by
  obtain ⟨d, rfl⟩ : ∃ e, d = e + 1 := ⟨d - 1, by omega⟩
  cases hx
  simp [Instr.checkKey, valOf, D.isAgg, run_underlying hu]
 | _, _, _, _, _, .str a b hu, d, hd, cs, hx => by
  obtain ⟨d, rfl⟩ : ∃ e, d = e + 1 := ⟨d - 1, by omega⟩
  cases hx
  simp [Instr.checkKey, valOf, D.isAgg, run_underlying hu]
 | _, _, _, _, _, .st (t := t) (fs := fs) hu hl hs hf, d, hd, cs, hx => by
  obtain ⟨d, rfl⟩ : ∃ e, d = e + 1 := ⟨d - 1, by omega⟩
  have := FitF.check (w := w) em hf (d := d) (by omega) (px := []) rfl hx
  simp only [valOf, D.isAgg, if_true]
  unfold Instr.checkKey
  simp only [Sem.run_bind, run_underlying hu, Result.andThen_ok]
  rw [← Array.forIn_toList, hl]
  simp at this
  simp [this]
theorem FitF.check {Z : Nat → Prop} {w w1 : World} (em : Bool) : ∀ {h o : Nat} {fs : List Field} {xs ys : List D} {b : Bool}, FitF P h o fs xs ys b → ∀ {d : Nat}, h ≤ d → ∀ {px cs : List Value}, px.length = o → D.repL Z w1 xs cs →
  ((forIn fs PUnit.unit fun f (_ : PUnit) => if f.name ≠ "_" then (do Instr.checkKey em d f.type (← part f.type (px ++ cs).toArray f.offset); pure (ForInStep.yield PUnit.unit)) else pure (ForInStep.yield PUnit.unit) : Sem PUnit)).run P w = .ok () w
 | _, _, _, _, _, _, .nil, d, _, px, cs, _, _ => by simp
 | _, _, _, _, _, _, .cons (f := f) (x := x) (y := y) (b := b) hn ho ht hx hy he hf, d, hd, px, cs, hpx, hrx => by
  obtain ⟨c1, c2, rfl, h1, h2⟩ := hrx
  have l1 := D.rep_len _ _ h1
  obtain ⟨hxs, hxa⟩ := hx
  have s1 : ∀ {ag : Bool}, x.isAgg = ag → ag = false → x.sz = 1 := fun h e => D.sz_one (h.trans e)
  have p1 := run_part_at ht w px c1 c2 (l1.trans hxs) (fun e => by rw [← hxs]; exact s1 hxa e) (hpx.trans ho.symm)
  have pe := FitE.check (w := w) em he (d := d) hd h1
  rw [hxa] at pe
  have ih := FitF.check (w := w) em hf (d := d) hd (px := px ++ c1) (by simp; omega) h2
  rw [List.append_assoc] at p1
  simp only [List.append_assoc] at ih
  rw [List.forIn_cons]
  simp only [hn, ne_eq, not_false_eq_true, if_true, Sem.run_bind, p1, pe, Result.andThen_ok, Sem.run_pure]
  simpa using ih
end
end Go.Vc
