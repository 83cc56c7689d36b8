/- Maps: loops over all entries, in whatever order. -/
import Derived.Test.YtgcilleccigmdaaDoorVcMC
namespace Go.Vc
open Go
variable {P : Program} {B : Base} {ops : Array Oper}

def foldS {S A : Type} (tb : S → A → Option S) : S → List A → Option S
  | s, [] => some s
  | s, p :: l => (tb s p).bind fun s' => foldS tb s' l
theorem foldS_app {S A : Type} {tb : S → A → Option S} : ∀ (l l' : List A) (s : S), foldS tb s (l ++ l') = (foldS tb s l).bind fun s' => foldS tb s' l'
  | [], _, _ => rfl
  | p :: l, l', s => by
    simp only [List.cons_append, foldS, Option.bind_assoc]
    congr 1
    funext s'
    exact foldS_app l l' s'
theorem bind_fin {A R : Type} {o : Option A} {f : A → Option R} {s : A} {r : R} (h : o.bind f = some r) (hs : o = some s) : f s = some r := by subst hs; exact h
open Classical in
/-- whatever the order, the same answer -/
noncomputable def mapAll {A R : Type} (l : List A) (G : List A → Option R) : Option R := if h : ∃ r, ∀ p : List A, p.Perm l → G p = some r then some h.choose else none
theorem mapAll_some {A R : Type} {l : List A} {G : List A → Option R} {r : R} (h : mapAll l G = some r) : ∀ p : List A, p.Perm l → G p = some r := by
  unfold mapAll at h
  split at h
  · rename_i hh
    cases h
    exact hh.choose_spec
  · cases h
theorem mapAll_of {A R : Type} {l : List A} {G : List A → Option R} {r : R} (h : ∀ p : List A, p.Perm l → G p = some r) : mapAll l G = some r := by
  unfold mapAll
  have hh : ∃ r, ∀ p : List A, p.Perm l → G p = some r := ⟨r, h⟩
  rw [dif_pos hh]
  have := hh.choose_spec l (List.Perm.refl l)
  rw [h l (List.Perm.refl l)] at this
  exact this.symm

theorem eraseIdx_perm {A : Type} : ∀ {l : List A} {j : Nat} {q : A}, l[j]? = some q → (q :: l.eraseIdx j).Perm l
  | [], _, _, h => by simp at h
  | x :: l, 0, q, h => by
    simp only [List.getElem?_cons_zero, Option.some.injEq] at h
    subst h; exact List.Perm.refl _
  | x :: l, j + 1, q, h => by
    rw [List.eraseIdx_cons_succ]
    exact (List.Perm.swap x q _).trans ((eraseIdx_perm (by simpa using h)).cons x)

theorem map_erase {A C : Type} (f : A → C) : ∀ (l : List A) (j : Nat), (l.map f).eraseIdx j = (l.eraseIdx j).map f
  | [], _ => rfl
  | _ :: _, 0 => rfl
  | x :: l, j + 1 => by simp [map_erase f l j]
def orun (b : Bool) (E : EL) (t8 t9 : Nat) : EL := (t9, .d (.bool b)) :: (t8, .junk) :: E

section
variable {A S : Type} {Q : Exit → EL → OL → Prop}
/-- the head of a round: one of what is left, or none is left -/
theorem next_head {E : EL} {O : OL} {t7 t8 t9 id : Nat} {ty8 ty9 : TypeId} {pos8 pos9 : String} {af8 af9 : Array Edge} {it : Nat} {ps : List (D × D)} {cur : Option (D × D)} {a : Act} {w : World} {σ : Nat → Option Nat} {Z : Nat → Prop}
    (s : Sim B (look E) (look O) a w σ Z) (h8 : t8 < B.N) (h9 : t9 < B.N) (hit : look E t7 = some (.ptr it 0 [])) (hob : look O it = some (some (.blk (iterB ps cur)))) {QQ : Exit → Act → World → Prop}
    (h0 : ps = [] → ∀ a' w', Sim B (look (orun false E t8 t9)) (look O) a' w' σ Z → QQ .normal a' w')
    (h1 : ∀ j p, ps[j]? = some p → ∀ a' w', Sim B (look (orun true E t8 t9)) (look ((it, some (.blk (iterB (ps.eraseIdx j) (some p)))) :: O)) a' w' σ Z → QQ .normal a' w') :
    (Code.region id [⟨some t8, .next (.tmp t7) false, ty8, pos8, af8, none⟩, ⟨some t9, .extract (.tmp t8) 0, ty9, pos9, af9, none⟩].toArray false).wp P QQ a w := by
  have hlive : live (look O) it := ⟨_, hob⟩
  obtain ⟨b, hb, hv⟩ := rep_ptr (Opd.tmp t7 (.ptr it 0 []) B (look E) (look O) a w σ Z s (fun p hp => by simp at hp; subst hp; exact hit)) hlive
  have two : ∀ (bb : Bool) (vs : List Value) (w1 : World) (O1 : OL), (Instr.next (.pointer (some ⟨b, 0, none⟩)) false ty8).run P w = .ok (.tuple (Value.bool bb :: vs).toArray) w1 → Sim B (look E) (look O1) a w1 σ Z →
      (∀ a' w', Sim B (look (orun bb E t8 t9)) (look O1) a' w' σ Z → QQ .normal a' w') →
      (Code.region id [⟨some t8, .next (.tmp t7) false, ty8, pos8, af8, none⟩, ⟨some t9, .extract (.tmp t8) 0, ty9, pos9, af9, none⟩].toArray false).wp P QQ a w := by
    intro bb vs w1 O1 hr s1 hq
    refine wp_region_lit (wpList_step fun K hK => ?_)
    rw [if_pos (by simp [Region.wanted])]
    unfold Oper.wp
    have hr1 : (execOp a.eval ⟨some t8, .next (.tmp t7) false, ty8, pos8, af8, none⟩).run P w = .ok (.value (.tuple (Value.bool bb :: vs).toArray)) w1 := by
      simp only [execOp, hv, Sem.run_bind, hr, Result.andThen_ok, Sem.run_pure]
    rw [hr1, Oper.upon_value]
    refine hK _ _ (wpList_step fun K2 hK2 => ?_)
    rw [if_pos (by simp [Region.wanted])]
    unfold Oper.wp
    have s2 := s1.put h8 (v := .tuple (Value.bool bb :: vs).toArray) (x := .junk) (RepT.junk _)
    have e8 : (a.put (some t8) (.tuple (Value.bool bb :: vs).toArray)).eval (.tmp t8) = .tuple (Value.bool bb :: vs).toArray := by
      have hl : t8 < a.tmps.size := by rw [s.len]; exact h8
      simp [Act.eval, Act.put, hl]
    have hr2 : (execOp (a.put (some t8) (.tuple (Value.bool bb :: vs).toArray)).eval ⟨some t9, .extract (.tmp t8) 0, ty9, pos9, af9, none⟩).run P w1 = .ok (.value (.bool bb)) w1 := by
      simp [execOp, e8, Instr.extract]
    rw [hr2, Oper.upon_value]
    refine hK2 _ _ (wpList_nil ?_)
    have s3 := s2.put h9 (v := .bool bb) (x := .d (.bool bb)) (mk_bool bb)
    rw [← look_upd, ← look_upd] at s3
    exact hq _ _ s3
  rcases next_run (ty := ty8) s hob hb with ⟨hp, w1, hw1, hr⟩ | ⟨j, p, w1, kv, vv, hp, hr, s1⟩
  · refine two false [] w1 O hr ?_ (h0 hp)
    rcases hw1 with rfl | rfl
    · exact s
    · exact s.drew
  · rw [← look_updO] at s1
    exact two true [kv, vv] w1 _ hr s1 (h1 j p hp)

theorem AWp.loopM {t7 t8 t9 id k it : Nat} {ty8 ty9 : TypeId} {pos8 pos9 : String} {af8 af9 : Array Edge} {body : Code} (f : A → D × D) (l : List A) (tb : S → A → Option S) (pe : S → EL) (po : S → OL) {s0 : S} (h8 : t8 < B.N) (h9 : t9 < B.N)
    (hit : ∀ s, look (pe s) t7 = some (.ptr it 0 []))
    (hdef : ∀ p : List A, p.Perm l → ∃ s, foldS tb s0 p = some s)
    (hround : ∀ (s : S) (q : A) (s' : S) (left : List A), tb s q = some s' → AWp P B body (fun e E' O' => e = .normal ∧ Mat B E' O' (pe s') ((it, some (.blk (iterB (left.map f) (some (f q))))) :: po s')) (orun true (pe s) t8 t9) ((it, some (.blk (iterB (left.map f) (some (f q))))) :: po s))
    (hfin : ∀ p s, p.Perm l → foldS tb s0 p = some s → Q (.exit k) (orun false (pe s) t8 t9) ((it, none) :: po s)) :
    AWp P B (.loop (.seq (.region id [⟨some t8, .next (.tmp t7) false, ty8, pos8, af8, none⟩, ⟨some t9, .extract (.tmp t8) 0, ty9, pos9, af9, none⟩].toArray false) (.seq (.cond (.tmp t9) .skip (.exit k)) body))) Q (pe s0) ((it, some (.blk (iterB (l.map f) none))) :: po s0) := by
  intro a w σ Z sm
  refine wp_rds (l.length + 1) a w ?_
  have main : ∀ (n : Nat) (left done : List A) (s : S) (cur : Option (D × D)) (a : Act) (w : World) (σ : Nat → Option Nat) (Z : Nat → Prop), left.length = n → (done ++ left).Perm l → foldS tb s0 done = some s →
      Sim B (look (pe s)) (look ((it, some (.blk (iterB (left.map f) cur))) :: po s)) a w σ Z →
      rds P (.seq (.region id [⟨some t8, .next (.tmp t7) false, ty8, pos8, af8, none⟩, ⟨some t9, .extract (.tmp t8) 0, ty9, pos9, af9, none⟩].toArray false) (.seq (.cond (.tmp t9) .skip (.exit k)) body))
        (fun e a' w' => ∃ E' O' σ' Z', Q e E' O' ∧ Sim B (look E') (look O') a' w' σ' Z') (n + 1) a w := by
    intro n
    induction n with
    | zero =>
      intro left done s cur a w σ Z hlen hperm hfold sm
      have hl : left = [] := List.eq_nil_of_length_eq_zero hlen
      subst hl
      have hlk : look ((it, some (.blk (iterB (List.map f []) cur))) :: po s) it = some (some (.blk (iterB (List.map f []) cur))) := by rw [look_cons, if_pos rfl]
      refine wp_seq (next_head sm h8 h9 (hit s) hlk (fun _ a' w' s' => ?_) (fun j p hp => by cases hp))
      refine wp_seq (wp_cond_split (rep_bool (Opd.tmp t9 (.d (.bool false)) B _ _ a' w' σ Z s' (fun p hp => by simp at hp; subst hp; simp [orun, look_cons]))) (fun h => by cases h) (fun _ => wp_exit ?_))
      have s2 := s'.kill it
      rw [← look_updO] at s2
      refine ⟨orun false (pe s) t8 t9, (it, none) :: po s, σ, Z, hfin done s (by simpa using hperm) hfold, ?_⟩
      have e : look ((it, none) :: (it, some (.blk (iterB (List.map f []) cur))) :: po s) = look ((it, none) :: po s) := by
        funext q
        simp only [look_cons]
        by_cases h : it = q <;> simp [h]
      rw [e] at s2
      exact s2
    | succ n ih =>
      intro left done s cur a w σ Z hlen hperm hfold sm
      have hlk : look ((it, some (.blk (iterB (left.map f) cur))) :: po s) it = some (some (.blk (iterB (left.map f) cur))) := by rw [look_cons, if_pos rfl]
      refine wp_seq (next_head sm h8 h9 (hit s) hlk (fun h => by simp at h; subst h; simp at hlen) (fun j p hp a' w' s' => ?_))
      rw [List.getElem?_map, Option.map_eq_some_iff] at hp
      obtain ⟨q, hq, rfl⟩ := hp
      have hpq := eraseIdx_perm hq
      have hj : j < left.length := (List.getElem?_eq_some_iff.1 hq).1
      -- the step is there
      have hperm2 : ((done ++ [q]) ++ left.eraseIdx j).Perm l := by
        refine List.Perm.trans ?_ hperm
        rw [List.append_assoc]
        exact List.Perm.append_left done hpq
      obtain ⟨sf, hsf⟩ := hdef _ hperm2
      rw [foldS_app, foldS_app, hfold] at hsf
      simp only [Option.bind_some] at hsf
      obtain ⟨s1, hs1, hsf⟩ := Option.bind_eq_some_iff.1 hsf
      have hs1' : foldS tb s0 (done ++ [q]) = some s1 := by rw [foldS_app, hfold]; exact hs1
      have hstep : tb s q = some s1 := by
        simp only [foldS] at hs1
        obtain ⟨s2, h2, h3⟩ := Option.bind_eq_some_iff.1 hs1
        cases h3; exact h2
      have e : look ((it, some (.blk (iterB ((left.map f).eraseIdx j) (some (f q))))) :: (it, some (.blk (iterB (left.map f) cur))) :: po s) = look ((it, some (.blk (iterB ((left.eraseIdx j).map f) (some (f q))))) :: po s) := by
        funext m
        simp only [look_cons]
        by_cases h : it = m
        · simp [h, map_erase]
        · simp [h]
      rw [e] at s'
      refine wp_seq (wp_cond_split (rep_bool (Opd.tmp t9 (.d (.bool true)) B _ _ a' w' σ Z s' (fun p hp => by simp at hp; subst hp; simp [orun, look_cons]))) (fun _ => wp_skip ?_) (fun h => by cases h))
      refine wp_mono (hround s q s1 (left.eraseIdx j) hstep a' w' σ Z s') fun ex a2 w2 ⟨E', O', σ', Z', ⟨hex, hm⟩, s2⟩ => ?_
      subst hex
      obtain ⟨σ2, Z2, s3⟩ := hm a2 w2 σ' Z' s2
      exact ih (left.eraseIdx j) (done ++ [q]) s1 (some (f q)) a2 w2 σ2 Z2 (by rw [List.length_eraseIdx]; simp [hj]; omega) hperm2 hs1' s3
  exact main l.length l [] s0 none a w σ Z rfl (by simp) rfl sm
end
section
variable {d : Nat} {x i : Operand} {ty : TypeId} {pos : String} {af : Array Edge} {nt nt' : List (Nat × V)}
/-- a byte of a string -/
theorem OpJ.indexStr {t : TypeId} (hu : P.underlying t = some .string) {s : List UInt8} {k : IntKind} {n : Int} {b : UInt8} (h0 : 0 ≤ n) (he : s[n.toNat]? = some b) (hN : d < B.N) (hx : Opd x (.d (.str s)) nt) (hi : Opd i (.d (.int k n)) nt') :
    OpJ P B ops ⟨some d, .index t x i, ty, pos, af, none⟩ { nt := nt ++ nt', wt := [(d, .d (.int .u8 (b.toNat : Int)))] } :=
  OpJ.pure rfl rfl hN fun env ob a w σ Z sm hne => by
    obtain ⟨h1, h2⟩ := needs_app hne
    have hs := rep_str (hx B env ob a w σ Z sm h1)
    have hin := rep_int (hi B env ob a w σ Z sm h2)
    have hb : (⟨s.toArray⟩ : ByteArray)[n.toNat]? = some b := by
      have hlt : n.toNat < s.length := (List.getElem?_eq_some_iff.1 he).1
      have hl2 : n.toNat < (⟨s.toArray⟩ : ByteArray).size := by simpa [ByteArray.size] using hlt
      rw [getElem?_pos (⟨s.toArray⟩ : ByteArray) n.toNat hl2]
      have := (List.getElem?_eq_some_iff.1 he).2
      simp only [Option.some.injEq]
      rw [← this]; rfl
    refine ⟨.int .u8 (b.toNat : Int), ?_, mk_int _ _⟩
    simp [execOp, hs, hin, Instr.index, asIntOf, run_underlying hu, h0, hb]
end
end Go.Vc
