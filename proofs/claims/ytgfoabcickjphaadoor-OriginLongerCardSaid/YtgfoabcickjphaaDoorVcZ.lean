/- A row that is cut off at its end, in place. -/
import Derived.Test.YtgfoabcickjphaaDoorVcT
namespace Go.Vc
open Go
variable {P : Program} {B : Base} {ops : Array Oper}
theorem ownsRow_take {w : World} {b0 e sz n k : Nat} {v : Value} {xs : List Value} (hk : k ≤ n) (h : w.ownsRow b0 e sz v n xs) :
  ∃ v', w.ownsRow b0 e sz v' k (xs.take (k * sz)) ∧ v'.ownBlock = v.ownBlock := by
 obtain ⟨hl, h⟩ := h
 have hm : k * sz ≤ n * sz := Nat.mul_le_mul_right sz hk
 rcases h with ⟨rfl, rfl⟩ | ⟨g, cap, cur, rfl, hb, hg, hc1, hc2, hs, ht⟩
 ·refine ⟨.slice none 0 0, ⟨by rw [List.length_take, hl]; omega, .inl ⟨rfl, by omega⟩⟩, rfl⟩
 ·refine ⟨.slice (some ⟨g, 0, none⟩) k cap, ⟨by rw [List.length_take, hl]; omega, .inr ⟨g, cap, cur, rfl, hb, hg, by omega, hc2, hs, ?_⟩⟩, rfl⟩
  rw [← ht, List.take_take, Nat.min_eq_left hm]
theorem repL_take {Z : Nat → Prop} {w : World} {sz : Nat} : ∀ (es : List D) (cs : List Value) (k : Nat), (∀ x ∈ es, x.sz = sz) → D.repL Z w es cs → D.repL Z w (es.take k) (cs.take (k * sz))
 | [], cs, k, _, h => by cases h; simp [D.repL]
 | e :: es, cs, 0, _, h => by simp [D.repL]
 | e :: es, cs, k + 1, hs, h => by
  obtain ⟨c1, c2, rfl, h2, h3⟩ := h
  have hl := D.rep_len e c1 h2
  rw [hs e (List.mem_cons_self ..)] at hl
  refine ⟨c1, c2.take (k * sz), ?_, h2, repL_take es c2 k (fun x hx => hs x (List.mem_cons_of_mem _ hx)) h3⟩
  rw [Nat.succ_mul, List.take_append, hl, show k * sz + sz - sz = k * sz from by omega, List.take_of_length_le (by omega)]
theorem Sim.shrink {env : Env} {ob : Obs} {a : Act} {w : World} {σ : Nat → Option Nat} {Z : Nat → Prop} (s : Sim B env ob a w σ Z) {n e sz k : Nat} {es : List D} (hn : ob n = some (some (.row e sz es))) (hk : k ≤ es.length) :
  Sim B env (updO ob n (some (.row e sz (es.take k)))) a w σ Z := by
 have hl : ∀ m, live (updO ob n (some (.row e sz (es.take k)))) m → live ob m := fun m ⟨o, h⟩ => by
  by_cases hm : m = n
  ·subst hm; exact ⟨_, hn⟩
  ·exact ⟨o, by simpa [updO, hm] using h⟩
 have m : Move ob (updO ob n (some (.row e sz (es.take k)))) σ σ Z Z w w := ⟨Ext.refl _ _, fun m h => by
   by_cases hm : m = n
   ·subst hm; simp [used, updO]
   ·simpa [used, updO, hm] using h, fun m _ h => ⟨hl m h, rfl⟩, fun _ _ _ _ _ => rfl⟩
 refine { s with env := ?_, obj := ?_, inj := fun i j b hi hj => s.inj i j b (hl i hi) (hl j hj), blk := fun i b hi => s.blk i b (hl i hi), pin := fun i b hp hi => s.pin i b hp (hl i hi), shp := fun i b hp hi => s.shp i b hp (hl i hi) }
 ·intro t x ht
  obtain ⟨v, h1, h2⟩ := s.env t x ht
  exact ⟨v, h1, h2.move m⟩
 ·intro i o hi
  by_cases hin : i = n
  ·subst hin
   have ho : o = .row e sz (es.take k) := by simpa [updO] using hi.symm
   subst ho
   obtain ⟨h0, h1, v, xs, h2, h3, h4, h5⟩ := s.obj i _ hn
   obtain ⟨v', k1, k2⟩ := ownsRow_take hk h2
   refine ⟨h0, fun x hx => h1 x (List.mem_of_mem_take hx), v', xs.take (k * sz), ?_, repL_take es xs k h1 h3, k2.trans h4, fun h => by rw [h5 h]; simp⟩
   rw [List.length_take, Nat.min_eq_left hk]; exact k1
  ·have ho : ob i = some (some o) := by simpa [updO, hin] using hi
   have h := s.obj i o ho
   cases o with
   | box t x =>
    obtain ⟨b, cs, h1, h2, h3, h4, h5⟩ := h
    exact ⟨b, cs, h1, h2, h3, h4, V.rep_move m x _ h5⟩
   | row e' sz' es' => exact h
   | blk sp => exact h
   | know k => exact h
theorem OpJ.shrS {o : Oper} {nt : List (Nat × V)} {d nm e sz k : Nat} {es es' : List D} {v : V} (h : OpJ P B ops o { nt, no := [(nm, .row e sz es)], wt := [(d, v)] }) (hk : k ≤ es.length) (he : es' = es.take k) :
  OpJ P B ops o { nt, no := [(nm, .row e sz es)], wt := [(d, v)], wo := [(nm, some (.row e sz es'))] } := by
 subst he
 intro Q env ob a w σ Z K s hn hK
 refine h Q env ob a w σ Z K s hn fun a' w' σ' Z' s' => ?_
 have hob : ob nm = some (some (.row e sz es)) := hn.2.1 (nm, .row e sz es) (by simp)
 rw [eff_env1 (d := d) (v := v) _ rfl, eff_obs0 _ rfl] at s'
 refine hK a' w' σ' Z' ?_
 rw [eff_env1 (d := d) (v := v) _ rfl]
 have := s'.shrink hob hk
 have e2 : Eff.obs { nt, no := [(nm, .row e sz es)], wt := [(d, v)], wo := [(nm, some (.row e sz (es.take k)))] } ob = updO ob nm (some (.row e sz (es.take k))) := by
  funext i; unfold updO Eff.obs
  simp only [look_one]
  by_cases hi : i = nm
  ·simp [hi]
  ·simp [hi, Ne.symm hi]
 rw [e2]; exact this
section
variable {d : Nat} {x y i : Operand} {ty : TypeId} {pos : String} {af : Array Edge}
end
section
variable {d : Nat} {x y i : Operand} {ty : TypeId} {pos : String} {af : Array Edge} {nt nt' : List (Nat × V)}
end
theorem idx_cut_lt {α : Type} {es : List α} {off len : Nat} {i : Int} {x : α} (h : idx ((es.drop off).take len) i = some x) : 0 ≤ i ∧ i.toNat < len := by
 have h1 := idx_some h
 obtain ⟨h2, _⟩ := List.getElem?_eq_some_iff.1 h1.2
 rw [List.length_take] at h2
 exact ⟨h1.1, by omega⟩
theorem idx_cut_at {α : Type} {es : List α} {off len : Nat} {i : Int} {x : α} (h : idx ((es.drop off).take len) i = some x) : es[off + i.toNat]? = some x := by
 have h1 := idx_some h
 have h2 := idx_cut_lt h
 rw [List.getElem?_take_of_lt h2.2, List.getElem?_drop] at h1
 exact h1.2
end Go.Vc
