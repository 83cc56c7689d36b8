/- What the printer leans on: small facts, ends of functions. -/
import Derived.Test.YtjhjijcffgmpkaaVcL
namespace Go.Vc
open Go
variable {P : Program} {B : Base} {ops : Array Oper}

mutual
theorem V.ren_id {r : Nat → Nat} (h : ∀ n, r n = n) : ∀ x : V, x.ren r = x
  | .junk => rfl
  | .d _ => rfl
  | .nils => rfl
  | .ptr .. => by simp [V.ren, h]
  | .dptr _ => rfl
  | .sref .. => by simp [V.ren, h]
  | .func _ caps => by simp [V.ren, V.renL_id h caps]
  | .st fs => by simp [V.ren, V.renL_id h fs]
  | .tup fs => by simp [V.ren, V.renL_id h fs]
  | .opt _ x => by simp [V.ren, V.ren_id h x]
theorem V.renL_id {r : Nat → Nat} (h : ∀ n, r n = n) : ∀ xs : List V, V.renL r xs = xs
  | [] => rfl
  | x :: xs => by simp [V.renL, V.ren_id h x, V.renL_id h xs]
end

/-- at a function's end: what is handed back, and what of the objects -/
def Fin2 (P : Program) (B : Base) (rs : List ResultVar) (res : V) (robs : OL) (e : Exit) (E : EL) (O : OL) : Prop :=
  (e = .ret ∨ e = .normal) ∧ ∃ E1 O1, Mat B E O E1 O1 ∧ ∃ vs, Res P E1 O1 rs vs ∧ res = resV vs ∧ okPat [] [] robs = true ∧ patO [] robs O1 = patO' [] robs ∧ (V.namesL vs).all (fun n => memB n (keys robs)) = true

theorem AC.of_code2 {f : FuncId} {fn : Func} {c : Code} {args : List V} {pobs : List (Nat × Ob)} {res : V} {robs : OL} (hf : P.funcs[f]? = some fn) (hb : fn.body = some c) (hnt : args.all noTupB = true)
    (hle : args.length ≤ fn.ntmps)
    (h : ∀ B : Base, B.ok → B.N = fn.ntmps → AWp P B c (Fin2 P B fn.results.toList res robs) (argE 0 args) (pobs.map fun p => (p.1, some p.2))) : AC P f args pobs res robs := by
  intro w σ Z cargs pre
  have hlen := pre.args.length
  let B : Base := { w0 := w, own := fun k => ∃ m, live (obOf pobs) m ∧ σ m = some k, pin := fun n => if n < 1000 ∧ (look pobs n).isSome then some (σ n) else none, z0 := Z, N := fn.ntmps }
  have hB : B.ok := by
    intro n b hn
    by_cases h : n < 1000 ∧ (look pobs n).isSome = true
    · exact h.1
    · simp [B, h] at hn
  have hN : cargs.toArray.size + (fn.ntmps - cargs.toArray.size) = fn.ntmps := by simp; omega
  have hsim : Sim B (look (argE 0 args)) (look (pobs.map fun p => (p.1, some p.2))) { tmps := cargs.toArray ++ Array.replicate (fn.ntmps - cargs.toArray.size) undef, defers := [] } w σ Z := by
    rw [look_map_some]
    refine ⟨rfl, by simp [B]; omega, ?_, pre.obj, pre.inj, ?_, pre.zlt, ?_, fun _ _ _ _ => rfl, rfl, rfl, rfl, Nat.le_refl _, fun _ h => h, fun _ h => .inl h, fun _ _ _ => rfl⟩
    · intro k x hk
      rw [look_argE] at hk
      simp only [Nat.zero_le, if_true, Nat.sub_zero] at hk
      obtain ⟨v, h1, h2⟩ := pre.args.get k x hk
      have hlt : k < cargs.length := (List.getElem?_eq_some_iff.1 h1).1
      refine ⟨v, ?_, RepT.of h2 ?_⟩
      · rw [Array.getElem?_append_left (by simpa using hlt)]; simpa using h1
      · have := List.all_eq_true.1 hnt x (List.mem_of_getElem? hk)
        simpa [noTupB] using this
    · exact fun n b hl hb => ⟨pre.blk n b hl hb, .inr ⟨n, hl, hb⟩⟩
    · intro n b hn _
      by_cases h : n < 1000 ∧ (look pobs n).isSome = true
      · simpa [B, h] using hn
      · simp [B, h] at hn
  refine calls_of_wp hf hb ?_
  refine wp_mono (h B hB rfl _ w σ Z hsim) fun e a' w' ⟨E', O0, σ1, Z1, ⟨he, E1, O1, hmat, vs, hres, hr, hp1, hp2, hp3⟩, s1⟩ => ?_
  obtain ⟨σ2, Z', s2⟩ := hmat a' w' σ1 Z1 s1
  have s' := s2.pat hB (E' := []) (O' := robs) [] hp1 rfl hp2
  have hO' := map_eq_mem hp2
  obtain ⟨cs, g2', g3⟩ := hres.run s2
  have rid : ∀ n, rnm [] n = n := fun n => rfl
  have idren : ∀ x : V, x.ren (rnm []) = x := V.ren_id rid
  have idrenL : ∀ xs : List V, V.renL (rnm []) xs = xs := V.renL_id rid
  have g2 : RepVs (look robs) (fun n => σ2 (rnm [] n)) Z' w' cs vs := by
    refine RepVs.unren (r := rnm []) (ob := look O1) (σ := σ2) ⟨fun n hn => ?_, fun n hn hl => ?_⟩ (by rw [idrenL]; exact g2')
    · have := List.all_eq_true.1 hp3 n hn
      exact look_of_mem (memB_spec this)
    · obtain ⟨o, ho⟩ := hl
      have := hO' (n, some o) (look_mem ho)
      exact ⟨⟨_, by simpa using this⟩, rfl⟩
  let σ' : Nat → Option Nat := fun n => σ2 (rnm [] n)
  have hrun : (results fn a'.tmps).run P w' = .ok (if h : cs.toArray.size = 1 then cs.toArray[0] else .tuple cs.toArray) w' := by
    rw [results_eq, Sem.run_bind, Array.mapM_eq_mapM_toList]
    have : (Functor.map List.toArray (fn.results.toList.mapM (resOne a'.tmps)) : Sem (Array Value)).run P w' = .ok cs.toArray w' := by
      rw [map_eq_pure_bind, Sem.run_bind, g3, Result.andThen_ok]; rfl
    rw [this]
    rfl
  have hrep : RepT (look robs) σ' Z' w' (if h : cs.toArray.size = 1 then cs.toArray[0] else .tuple cs.toArray) res := by
    subst hr
    match vs, cs, g2 with
    | [v], [c], g2 =>
      simp only [resV, List.size_toArray, List.length_cons, List.length_nil, Nat.zero_add, dite_true]
      refine RepT.of g2.1 ?_
      have := g2.1
      cases v <;> first | rfl | simp [RepV, V.isAgg, V.rep] at this
    | [], [], _ => exact ⟨[], rfl, trivial⟩
    | v :: v' :: vs, c :: c' :: cs, g2 => exact ⟨_, by simp, g2⟩
  have hpin : ∀ n, n < 1000 → live (obOf pobs) n → B.pin n = some (σ n) := fun n hn hl => by
    obtain ⟨o, ho⟩ := hl
    have : (look pobs n).isSome = true := by
      simp only [obOf, Option.map_eq_some_iff] at ho
      obtain ⟨o', h1, _⟩ := ho
      simp [h1]
    simp [B, hn, this]
  have hpost : Post (obOf pobs) w σ Z res robs _ w' σ' Z' := ⟨hrep, s'.obj, s'.inj, fun n hn hl hl' => s'.pin n _ (hpin n hn hl) hl', fun n b hn hl hl' hb => s'.shp n b (by rw [← hb]; exact hpin n hn hl) hl',
    s'.blk, s'.zlt, s'.zsub, s'.znew, s'.os, s'.tape, s'.output, s'.size, s'.block⟩
  rcases he with rfl | rfl
  · exact bodyPost_ret hrun s'.dfr ⟨_, σ', Z', rfl, hpost⟩
  · exact bodyPost_end hrun s'.dfr ⟨_, σ', Z', rfl, hpost⟩


theorem map_set {α β : Type} (f : α → β) (xs : List α) (k : Nat) (x : α) : (xs.set k x).map f = (xs.map f).set k (f x) := List.map_set
theorem map_sz {α : Type} {f : α → D} {sz : Nat} (h : ∀ x, (f x).sz = sz) {xs : List α} : ∀ y ∈ xs.map f, y.sz = sz := fun y hy => by
  obtain ⟨x, _, rfl⟩ := List.mem_map.1 hy
  exact h x
theorem and_l2 {a b : Bool} (h : (a && b) = true) : a = true := by cases a <;> simp_all
theorem and_r2 {a b : Bool} (h : (a && b) = true) : b = true := by cases a <;> simp_all
theorem and_l {p q : Prop} [Decidable p] [Decidable q] (h : (decide p && decide q) = true) : p := of_decide_eq_true (and_l2 h)
theorem and_r {p q : Prop} [Decidable p] [Decidable q] (h : (decide p && decide q) = true) : q := of_decide_eq_true (and_r2 h)
theorem lim_mul {c : Int} {b : Nat} (h : c ≤ (LIM : Int)) (hb : Nat.ble b 65536 = true) : (b : Int) * c ≤ 281474976710656 := by
  have hb' := Nat.le_of_ble_eq_true hb
  have : (b : Int) * c ≤ 65536 * 4294967296 := by
    have h1 : c ≤ 4294967296 := h
    by_cases h0 : 0 ≤ c
    · exact Int.mul_le_mul (by omega) h1 h0 (by omega)
    · have : (b : Int) * c ≤ 0 := Int.mul_nonpos_of_nonneg_of_nonpos (by omega) (by omega)
      omega
  omega
theorem lim_le {c : Int} (h : c ≤ (LIM : Int)) : c ≤ 9223372036854775807 := by
  have h1 : c ≤ 4294967296 := h
  omega
theorem lim_mulN {c b : Nat} (h : decide (c ≤ LIM) = true) (hb : Nat.ble b 32768 = true) : c * b ≤ 140737488355328 := by
  have h1 : c ≤ 4294967296 := of_decide_eq_true h
  have hb' := Nat.le_of_ble_eq_true hb
  have := Nat.mul_le_mul h1 hb'
  omega
theorem lim_leN {c : Nat} (h : decide (c ≤ LIM) = true) : c ≤ 9223372036854775807 := by
  have h1 : c ≤ 4294967296 := of_decide_eq_true h
  omega

section
variable {d : Nat} {ty : TypeId} {pos : String} {af : Array Edge} {nt nt' : List (Nat × V)} {x y c : Operand}
theorem OpJ.opt' {op : Op} {α : Eff} {v : V} {j gt : Nat} {want : Bool} {gv : V} {g : Bool} (h : OpJ P B ops ⟨some d, op, ty, pos, af, none⟩ α) (hgd : (ops[j]?).bind (·.dst) = some gt) (hgv : GuardV want gv g) (hN : d < B.N) (hv : v.isTop = false) (hwt : α.wt = [(d, v)]) (hwo : α.wo = []) (hnf : α.nf = []) (hl : OptL g α.nt nt') :
    OpJ P B ops ⟨some d, op, ty, pos, af, some (j, want)⟩ { nt := (gt, gv) :: nt', no := α.no, wt := [(d, .opt g v)] } := OpJ.opt hgd hgv hN hv hwt hwo hnf hl h
theorem undef_rep {ob : Obs} {σ : Nat → Option Nat} {Z : Nat → Prop} {w : World} : RepT ob σ Z w undef (.opt false .junk) := ⟨(fun e => by cases e), fun _ => rfl⟩
/-- a guarded operation whose guard says no: its temporary is not there -/
theorem OpJ.skipU {op : Op} {j g : Nat} {want : Bool} (hN : d < B.N) (hg : (ops[j]?).bind (·.dst) = some g) :
    OpJ P B ops ⟨some d, op, ty, pos, af, some (j, want)⟩ { nt := [(g, .d (.bool (!want)))], wt := [(d, .opt false .junk)] } := by
  intro Q env ob a w σ Z K s hn hK
  obtain ⟨cv, h1, h2⟩ := s.env g _ (hn.1 (g, .d (.bool (!want))) (List.mem_cons_self ..))
  have hcv := rep_bool h2
  subst hcv
  rw [if_neg (by simp [Region.wanted, yielded, hg, h1])]
  refine hK _ _ σ Z ?_
  rw [eff_env1 _ rfl]
  exact s.put hN undef_rep
theorem OpJ.skipV {op : Op} {j g : Nat} {want : Bool} {v : V} (hN : d < B.N) (hg : (ops[j]?).bind (·.dst) = some g) :
    OpJ P B ops ⟨some d, op, ty, pos, af, some (j, want)⟩ { nt := [(g, .opt false v)], wt := [(d, .opt false .junk)] } := by
  intro Q env ob a w σ Z K s hn hK
  obtain ⟨cv, h1, h2⟩ := s.env g _ (hn.1 (g, .opt false v) (List.mem_cons_self ..))
  have hcv := h2.2 rfl
  subst hcv
  rw [if_neg (by simp [Region.wanted, yielded, hg, h1, undef])]
  refine hK _ _ σ Z ?_
  rw [eff_env1 _ rfl]
  exact s.put hN undef_rep
theorem OpJ.skipV0 {op : Op} {j g : Nat} {want : Bool} {v : V} (hg : (ops[j]?).bind (·.dst) = some g) :
    OpJ P B ops ⟨none, op, ty, pos, af, some (j, want)⟩ { nt := [(g, .opt false v)] } := by
  intro Q env ob a w σ Z K s hn hK
  obtain ⟨cv, h1, h2⟩ := s.env g _ (hn.1 (g, .opt false v) (List.mem_cons_self ..))
  have hcv := h2.2 rfl
  subst hcv
  rw [if_neg (by simp [Region.wanted, yielded, hg, h1, undef])]
  exact hK _ _ σ Z s
theorem repL_of_RepVs {ob : Obs} {σ : Nat → Option Nat} {Z : Nat → Prop} {w : World} : ∀ {cs : List Value} {vs : List V}, RepVs ob σ Z w cs vs → vs.all (fun v => !v.isAgg && (match v with | .junk => false | _ => true)) = true → V.repL ob σ Z w vs cs
  | [], [], _, _ => rfl
  | v :: cs, x :: vs, h, ha => by
    simp only [List.all_cons, Bool.and_eq_true] at ha
    have h1 := h.1
    unfold RepV at h1
    have hag : x.isAgg = false := by simpa using ha.1.1
    rw [if_neg (by rw [hag]; simp)] at h1
    refine ⟨v, cs, rfl, ?_, h1.1, repL_of_RepVs h.2 ha.2⟩
    rcases h1.2 with h2 | h2
    · subst h2; simp at ha
    · exact h2
  | [], _ :: _, h, _ => h.elim
  | _ :: _, [], h, _ => h.elim
theorem OpJ.makeF {f : FuncId} {caps : List Operand} {vs : List V} (hx : OpdL caps vs nt) (hc : vs.all (fun v => !v.isAgg && (match v with | .junk => false | _ => true)) = true) (ht : vs.all noTupB = true) (hN : d < B.N) :
    OpJ P B ops ⟨some d, .makeFunc (.func f) #[] caps.toArray, ty, pos, af, none⟩ { nt, wt := [(d, .func f vs)] } :=
  OpJ.makeFunc (fun _ _ _ _ _ _ _ s hn => repL_of_RepVs (hx.rep s hn ht) hc) hN
end

/-- where the parts of an embedded list lie -/
theorem SetAt.arrM {α : Type} (f : α → D) {n sz i : Nat} {xs : List α} {p : List Nat} {off : Nat} {x x' : α} {y : V} {off' : Nat} (hx : xs[i]? = some x) (h : SetAt (.d (f x)) p off y (.d (f x'))) (hs : (f x').sz = (f x).sz) (he : off' = i * sz + off) :
    SetAt (.d (.arr n sz (xs.map f))) (i :: p) off' y (.d (.arr n sz ((xs.set i x').map f))) := by
  subst he
  rw [map_set]
  exact SetAt.arr (get_map f hx) h hs

theorem SetAt.dst1 {fs gs : List D} {i : Nat} {p : List Nat} {o off off' : Nat} {f : D} {y : V} {f' : D} (hf : fs[i]? = some f) (ho : D.szL (fs.take i) = o) (h : SetAt (.d f) p off y (.d f')) (hs : f'.sz = f.sz) (hg : gs = fs.set i f') (he : off' = o + off) :
    SetAt (.d (.st fs)) (i :: p) off' y (.d (.st gs)) := by subst hg; subst he; exact SetAt.dst hf ho h hs
theorem SetAt.st1 {fs gs : List V} {i : Nat} {p : List Nat} {o off off' : Nat} {f y f' : V} (hf : fs[i]? = some f) (ho : V.szL (fs.take i) = o) (h : SetAt f p off y f') (hs : f'.sz = f.sz) (hg : gs = fs.set i f') (he : off' = o + off) :
    SetAt (.st fs) (i :: p) off' y (.st gs) := by subst hg; subst he; exact SetAt.st hf ho h hs
theorem At.dst1 {fs : List D} {i : Nat} {p : List Nat} {o off off' : Nat} {f : D} {y : V} (hf : fs[i]? = some f) (ho : D.szL (fs.take i) = o) (h : At (.d f) p off y) (he : off' = o + off) : At (.d (.st fs)) (i :: p) off' y := by subst he; exact At.dst hf ho h
theorem At.st1 {fs : List V} {i : Nat} {p : List Nat} {o off off' : Nat} {f y : V} (hf : fs[i]? = some f) (ho : V.szL (fs.take i) = o) (h : At f p off y) (he : off' = o + off) : At (.st fs) (i :: p) off' y := by subst he; exact At.st hf ho h
theorem At.arr1 {α : Type} (f : α → D) {n sz i : Nat} {xs : List α} {p : List Nat} {off off' : Nat} {x : α} {y : V} (hx : xs[i]? = some x) (h : At (.d (f x)) p off y) (he : off' = i * sz + off) : At (.d (.arr n sz (xs.map f))) (i :: p) off' y := by subst he; exact At.arr (get_map f hx) h

theorem Mat.val {E : EL} {O : OL} {k : Nat} {v v' : V} (hk : look E k = some v) (e : v = v') : Mat B E O ((k, v') :: E) O := fun a w σ Z s => ⟨σ, Z, by
  subst e
  refine { s with env := ?_ }
  intro j x hj
  rw [look_upd] at hj
  unfold upd at hj
  by_cases he : j = k
  · rw [if_pos he] at hj
    subst he
    exact s.env j x (hk.trans hj)
  · rw [if_neg he] at hj
    exact s.env j x hj⟩
theorem Opd.junk (x : Operand) : Opd x .junk [] := fun B env ob a w σ Z s h => by simp [RepT, RepV, V.isAgg, V.rep]

/-- a new row that is data at once -/
theorem OpJ.frz {o : Oper} {nt : List (Nat × V)} {no : List (Nat × Ob)} {nf : List Nat} {d nm e sz len : Nat} {es : List D} {wo : OL} (h : OpJ P B ops o { nt, no, nf, wt := [(d, .sref nm sz 0 len)], wo := (nm, some (.row e sz es)) :: wo }) (hlen : len = es.length) :
    OpJ P B ops o { nt, no, nf, wt := [(d, .d (.list sz es))], wo := (nm, none) :: wo } := by
  intro Q env ob a w σ Z K s hn hK
  refine h Q env ob a w σ Z K s hn fun a' w' σ' Z' s' => ?_
  have h1 : Eff.env { nt, no, nf, wt := [(d, .sref nm sz 0 len)], wo := (nm, some (.row e sz es)) :: wo } env = upd env d (.sref nm sz 0 len) := eff_env1 _ rfl
  have h2 : Eff.env { nt, no, nf, wt := [(d, .d (.list sz es))], wo := (nm, none) :: wo } env = upd env d (.d (.list sz es)) := eff_env1 _ rfl
  rw [h1] at s'
  obtain ⟨Z'', s''⟩ := s'.freeze (n := nm) (e := e) (sz := sz) (es := es) (k := d) (off := 0) (len := len) (by simp [Eff.obs, look_cons]) (by simp [upd]) (by omega)
  have e1 : upd (upd env d (.sref nm sz 0 len)) d (.d (.list sz ((es.drop 0).take len))) = upd env d (.d (.list sz es)) := by
    funext k; unfold upd; by_cases hk : k = d <;> simp [hk, hlen]
  have e2 : updO (Eff.obs { nt, no, nf, wt := [(d, .sref nm sz 0 len)], wo := (nm, some (.row e sz es)) :: wo } ob) nm none = Eff.obs { nt, no, nf, wt := [(d, .d (.list sz es))], wo := (nm, none) :: wo } ob := by
    funext k; unfold updO Eff.obs
    simp only [look_cons]
    by_cases hk : k = nm
    · simp [hk]
    · simp [hk, Ne.symm hk]
  rw [e1, e2] at s''
  exact hK a' w' σ' Z'' (by rw [h2]; exact s'')

end Go.Vc
