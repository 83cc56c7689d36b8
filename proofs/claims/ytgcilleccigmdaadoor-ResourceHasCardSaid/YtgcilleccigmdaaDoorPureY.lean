/- The law of what is in resources, in plain Lean. -/
import Derived.Test.YtgcilleccigmdaaDoorPureX
import Derived.Test.YtgcilleccigmdaaDoorPureQ
namespace Go.Proofs.YtgcilleccigmdaaDoor
open Go Go.Vc

theorem gl_mem {t : api_Addr} {s : api_Addr × Bool} {l : List api_Prefix} (h : GL t s l) : ∀ p ∈ l, pV p := by
  induction h with
  | stop _ => intro p hp; cases hp
  | step _ _ ht _ ih =>
    intro p hp
    rcases List.mem_cons.1 hp with e | e
    · rw [e]; exact ht.1.1
    · exact ih p e
theorem px_mem {l : List api_Range} (h : ∀ x ∈ l, xV x) : ∀ p ∈ l.flatMap PX, pV p := by
  intro p hp
  obtain ⟨x, hx, hp⟩ := List.mem_flatMap.1 hp
  exact gl_mem (px_ok (h x hx)).1 p hp
theorem bool_same {b c : Bool} {P : Prop} (h : b = true ↔ P) (k : c = true ↔ P) : b = c := by
  cases b <;> cases c
  · rfl
  · exact h.2 (k.1 rfl)
  · exact (k.2 (h.1 rfl)).symm
  · rfl
theorem bne_F {b c : Bool} (h : b = c) : (b != c) = false := by subst h; cases b <;> rfl
theorem has_L0 (l : List api_Prefix) (hl : l.length ≤ 1000000) : Tot (loop (exchangepointlaw21_ResourceHas_L0 l l) (0 : Int)) (fun x => x = .inr ()) := by
  refine Tot.rng l.length (fun k (_ : Unit) => ((k : Nat) : Int)) (fun _ _ => True) _ () rfl trivial (fun k _ hk _ => ?_) (fun _ _ => ?_)
  · have hw : w64 ((k : Int) + 1) = ((k + 1 : Nat) : Int) := by rw [w64_id (by omega) (by omega)]; rfl
    unfold exchangepointlaw21_ResourceHas_L0
    refine Tot.iteT (by simpa using hk) (Tot.bindIdx k rfl hk (Tot.bindIdx k rfl hk (Tot.bindIdx k rfl hk (Tot.iteF (by simp) (Tot.step () (by rw [hw]) trivial)))))
  · unfold exchangepointlaw21_ResourceHas_L0
    exact Tot.iteF (by simp) (Tot.last rfl)
theorem has_L1 {r : api_Resources × exchangepointmake_Deck} {p : api_Prefix × exchangepointmake_Deck} {l : List api_Prefix} (hr : VRes r.1) (hp : pV p.1) (hm : ∀ q ∈ l, pV q) (hl : l.length ≤ 1000000) :
    Tot (loop (exchangepointlaw21_ResourceHas_L1 r p l) (0 : Int)) (fun x => x = .inr ()) := by
  have h1 := hr.la
  have hm2 : ∀ q ∈ l ++ [p.1], pV q := fun q hq => by
    rcases List.mem_append.1 hq with e | e
    · exact hm q e
    · rw [List.mem_singleton.1 e]; exact hp
  have hlen : (l ++ [p.1]).length = l.length + 1 := by simp
  refine Tot.rng (l ++ [p.1]).length (fun k (_ : Unit) => ((k : Nat) : Int)) (fun _ _ => True) _ () rfl trivial (fun k _ hk _ => ?_) (fun _ _ => ?_)
  · have hw : w64 ((k : Int) + 1) = ((k + 1 : Nat) : Int) := by rw [w64_id (by omega) (by omega)]; rfl
    unfold exchangepointlaw21_ResourceHas_L1
    have hq := hm2 _ (List.getElem_mem hk)
    refine Tot.iteT (decide_eq_true (show (k : Int) < _ by omega)) (Tot.bindIdx k rfl hk (Tot.bindIdx k rfl hk (Tot.bindT (has_eq hr.av (by omega) hq) fun b hb => Tot.bindT (rhas_eq hr.av (by omega) hq) fun c hc => Tot.iteF (bne_F (bool_same hb hc)) (Tot.step () (by rw [hw]) trivial))))
  · unfold exchangepointlaw21_ResourceHas_L1
    exact Tot.iteF (by simp) (Tot.last rfl)
theorem has_L2 {r : api_Resources × exchangepointmake_Deck} (a b c : Int) (hr : VRes r.1) : Tot (loop (exchangepointlaw21_ResourceHas_L2 a r b c) (0 : Int)) (fun x => x = .inr ()) := by
  have h1 := hr.ls
  refine Tot.rng 3 (fun k (_ : Unit) => ((k : Nat) : Int)) (fun _ _ => True) _ () rfl trivial (fun k _ hk _ => ?_) (fun _ _ => ?_)
  · have hw : w64 ((k : Int) + 1) = ((k + 1 : Nat) : Int) := by rw [w64_id (by omega) (by omega)]; rfl
    unfold exchangepointlaw21_ResourceHas_L2
    refine Tot.iteT (decide_eq_true (show (k : Int) < 3 by omega)) (Tot.bindIdx k rfl hk (Tot.bindT (hasn_eq (by omega) _) fun b hb => Tot.bindT (rhasn_eq (by omega) _) fun c hc => Tot.iteF (bne_F (bool_same hb hc)) (Tot.step () (by rw [hw]) trivial)))
  · unfold exchangepointlaw21_ResourceHas_L2
    exact Tot.iteF rfl (Tot.last rfl)
/-- the law -/
theorem has_law (a0 : List Int) (h0 : (∀ y ∈ a0, I64 y) ∧ a0.length ≤ maxLen) (a1 : Int) (h1 : I64 a1) : exchangepointlaw21_ResourceHas a0 a1 = some true := by
  refine Tot.eq ?_
  unfold exchangepointlaw21_ResourceHas
  refine Tot.bindOf (show exchangepointmake_New a0 = some ⟨a0, 0⟩ from rfl) (Tot.bindT (dres_tot _ (new_ok a0 (by have := h0.2; unfold maxLen at this; omega))) fun r hr => ?_)
  obtain ⟨⟨hv, n1, n2⟩, hd⟩ := hr
  refine Tot.bindT (prefix_tot _ hd) fun p hp => ?_
  have hx := vres_x hv
  obtain ⟨e1, e2⟩ := rpres_eq hx (by omega)
  have hm := px_mem hx
  refine Tot.bindOf e1 (Tot.bindOf (cpres_eq hv) (Tot.iteF (by simp) (Tot.bindT (has_L0 _ (by omega)) ?_)))
  rintro _ rfl
  refine Tot.chk (limB (by simp only [List.length_append, List.length_cons, List.length_nil]; omega)) (Tot.bindT (has_L1 hv hp.1 hm (by omega)) ?_)
  rintro _ rfl
  refine Tot.bindOf (mod_eq a1 30 (by decide) (by decide)) (Tot.bindOf (mod_eq a1 12 (by decide) (by decide)) (Tot.bindT (has_L2 a1 _ _ hv) ?_))
  rintro _ rfl
  exact Tot.bindOf awake_eq (Tot.some rfl)
end Go.Proofs.YtgcilleccigmdaaDoor
