/- Contracts of functions; code. -/
import Derived.Test.YtjhjijcffgmpkaaVcI
namespace Go.Vc
open Go
variable {P : Program} {B : Base} {ops : Array Oper}

def obOf (pobs : List (Nat × Ob)) : Obs := fun n => (look pobs n).map some

/-- what a call of f may be counted on for -/
structure Post (ob : Obs) (w : World) (σ : Nat → Option Nat) (Z : Nat → Prop) (res : V) (robs : OL) (cv : Value) (w' : World) (σ' : Nat → Option Nat) (Z' : Nat → Prop) : Prop where
  res : RepT (look robs) σ' Z' w' cv res
  obj : ∀ n o, look robs n = some (some o) → o.rep (look robs) σ' Z' w' n
  inj : ∀ n m b, live (look robs) n → live (look robs) m → σ' n = some b → σ' m = some b → n = m
  pin : ∀ n, n < 1000 → live ob n → live (look robs) n → σ' n = σ n
  shp : ∀ n b, n < 1000 → live ob n → live (look robs) n → σ n = some b → w'.shape? b = w.shape? b
  blk : ∀ n b, live (look robs) n → σ' n = some b → ¬ Z' b ∧ (w.heap.size ≤ b ∨ ∃ m, live ob m ∧ σ m = some b)
  zlt : ∀ b, Z' b → b < w'.heap.size
  zsub : ∀ b, Z b → Z' b
  znew : ∀ b, Z' b → Z b ∨ w.heap.size ≤ b ∨ ∃ m, live ob m ∧ σ m = some b
  os : w'.os = w.os
  tape : w'.tape = w.tape
  output : w'.output = w.output
  size : w.heap.size ≤ w'.heap.size
  block : ∀ k, k < w.heap.size → (¬ ∃ m, live ob m ∧ σ m = some k) → w'.heap[k]? = w.heap[k]?

structure Pre (ob : Obs) (w : World) (σ : Nat → Option Nat) (Z : Nat → Prop) (args : List V) (cargs : List Value) : Prop where
  args : RepVs ob σ Z w cargs args
  obj : ∀ n o, ob n = some (some o) → o.rep ob σ Z w n
  inj : ∀ n m b, live ob n → live ob m → σ n = some b → σ m = some b → n = m
  blk : ∀ n b, live ob n → σ n = some b → ¬ Z b
  zlt : ∀ b, Z b → b < w.heap.size

def AC (P : Program) (f : FuncId) (args : List V) (pobs : List (Nat × Ob)) (res : V) (robs : OL) : Prop :=
  ∀ (w : World) (σ : Nat → Option Nat) (Z : Nat → Prop) (cargs : List Value), Pre (obOf pobs) w σ Z args cargs →
    Calls P f cargs.toArray w fun e w' => ∃ cv σ' Z', e = .returned cv ∧ Post (obOf pobs) w σ Z res robs cv w' σ' Z'

-- code

def AWp (P : Program) (B : Base) (c : Code) (Q : Exit → EL → OL → Prop) (E : EL) (O : OL) : Prop :=
  ∀ (a : Act) (w : World) (σ : Nat → Option Nat) (Z : Nat → Prop), Sim B (look E) (look O) a w σ Z →
    c.wp P (fun e a' w' => ∃ E' O' σ' Z', Q e E' O' ∧ Sim B (look E') (look O') a' w' σ' Z') a w

section
variable {Q Q' : Exit → EL → OL → Prop} {E E' : EL} {O O' : OL}
theorem AWp.mono {c : Code} (h : AWp P B c Q E O) (hq : ∀ e E O, Q e E O → Q' e E O) : AWp P B c Q' E O := fun a w σ Z s =>
  wp_mono (h a w σ Z s) fun _ _ _ ⟨E', O', σ', Z', q, s'⟩ => ⟨E', O', σ', Z', hq _ _ _ q, s'⟩
theorem AWp.skip (h : Q .normal E O) : AWp P B .skip Q E O := fun _ _ σ Z s => wp_skip ⟨E, O, σ, Z, h, s⟩
theorem AWp.ret (h : Q .ret E O) : AWp P B .ret Q E O := fun _ _ σ Z s => wp_ret ⟨E, O, σ, Z, h, s⟩
theorem AWp.exit {id : Nat} (h : Q (.exit id) E O) : AWp P B (.exit id) Q E O := fun _ _ σ Z s => wp_exit ⟨E, O, σ, Z, h, s⟩
def seqQ (P : Program) (B : Base) (y : Code) (Q : Exit → EL → OL → Prop) : Exit → EL → OL → Prop
  | .normal, E, O => AWp P B y Q E O
  | e, E, O => Q e E O
theorem AWp.seq {x y : Code} (h : AWp P B x (seqQ P B y Q) E O) : AWp P B (.seq x y) Q E O := fun a w σ Z s =>
  wp_seq (wp_mono (h a w σ Z s) fun e a' w' ⟨E', O', σ', Z', q, s'⟩ => by
    cases e with
    | normal => exact q a' w' σ' Z' s'
    | _ => exact ⟨E', O', σ', Z', q, s'⟩)
theorem AWp.cond {t : Nat} {b : Bool} {x y : Code} (hc : look E t = some (.d (.bool b))) (h1 : b = true → AWp P B x Q E O) (h2 : b = false → AWp P B y Q E O) : AWp P B (.cond (.tmp t) x y) Q E O := fun a w σ Z s => by
  have hv := rep_bool (Opd.tmp t (.d (.bool b)) B (look E) (look O) a w σ Z s (fun p hp => by simp at hp; subst hp; exact hc))
  exact wp_cond_split hv (fun h => h1 h a w σ Z s) (fun h => h2 h a w σ Z s)
def blkQ (id : Nat) (Q : Exit → EL → OL → Prop) : Exit → EL → OL → Prop
  | .exit id', E, O => if id' = id then Q .normal E O else Q (.exit id') E O
  | e, E, O => Q e E O
theorem AWp.block {id : Nat} {c : Code} (h : AWp P B c (blkQ id Q) E O) : AWp P B (.block id c) Q E O := fun a w σ Z s =>
  wp_block (wp_mono (h a w σ Z s) fun e a' w' ⟨E', O', σ', Z', q, s'⟩ => by
    cases e with
    | exit id' =>
      simp only [Exit.inBlock]
      simp only [blkQ] at q
      split at q
      · rename_i he; rw [if_pos he]; exact ⟨E', O', σ', Z', q, s'⟩
      · rename_i he; rw [if_neg he]; exact ⟨E', O', σ', Z', q, s'⟩
    | _ => exact ⟨E', O', σ', Z', q, s'⟩)

/-- n rounds at the most -/
def rds (P : Program) (c : Code) (Q : Exit → Act → World → Prop) : Nat → Act → World → Prop
  | 0, _, _ => False
  | n + 1, a, w => c.wp P (Exit.then (rds P c Q n) Q) a w
theorem wp_rds {c : Code} {Q : Exit → Act → World → Prop} (n : Nat) (a : Act) (w : World) (h : rds P c Q n a w) : (Code.loop c).wp P Q a w := by
  classical
  have wit : ∃ n, rds P c Q n a w := ⟨n, h⟩
  let mu : Act → World → Nat := fun a w => if h : ∃ n, rds P c Q n a w then Classical.choose (p := fun k => rds P c Q k a w ∧ ∀ m, m < k → ¬ rds P c Q m a w) (by
    obtain ⟨n, hn⟩ := h
    induction n using Nat.strongRecOn with
    | ind n ih =>
      by_cases hm : ∃ m, m < n ∧ rds P c Q m a w
      · obtain ⟨m, h1, h2⟩ := hm; exact ih m h1 h2
      · exact ⟨n, hn, fun m h1 h2 => hm ⟨m, h1, h2⟩⟩) else 0
  have hmu : ∀ a w, (∃ n, rds P c Q n a w) → rds P c Q (mu a w) a w ∧ ∀ m, m < mu a w → ¬ rds P c Q m a w := by
    intro a w h
    have : mu a w = Classical.choose (p := fun k => rds P c Q k a w ∧ ∀ m, m < k → ¬ rds P c Q m a w) _ := dif_pos h
    rw [this]
    exact Classical.choose_spec (p := fun k => rds P c Q k a w ∧ ∀ m, m < k → ¬ rds P c Q m a w) _
  refine wp_loop (fun a w => ∃ n, rds P c Q n a w) mu wit fun a w hw => ?_
  obtain ⟨h1, h2⟩ := hmu a w hw
  cases hk : mu a w with
  | zero => rw [hk] at h1; exact h1.elim
  | succ k =>
    rw [hk] at h1
    refine wp_mono h1 fun e a' w' he => ?_
    cases e with
    | normal =>
      refine ⟨⟨k, he⟩, ?_⟩
      obtain ⟨g1, g2⟩ := hmu a' w' ⟨k, he⟩
      exact Nat.lt_succ_of_le (Nat.le_of_not_lt fun hlt => g2 k hlt he)
    | _ => exact he

/-- whoever is in state E, O is in state E', O' too -/
def Mat (B : Base) (E : EL) (O : OL) (E' : EL) (O' : OL) : Prop :=
  ∀ (a : Act) (w : World) (σ : Nat → Option Nat) (Z : Nat → Prop), Sim B (look E) (look O) a w σ Z → ∃ σ' Z', Sim B (look E') (look O') a w σ' Z'
theorem Mat.refl : Mat B E O E O := fun _ _ σ Z s => ⟨σ, Z, s⟩
theorem Mat.trans {E1 E2 E3 : EL} {O1 O2 O3 : OL} (h : Mat B E1 O1 E2 O2) (k : Mat B E2 O2 E3 O3) : Mat B E1 O1 E3 O3 := fun a w σ Z s => by
  obtain ⟨σ', Z', s'⟩ := h a w σ Z s
  exact k a w σ' Z' s'

/-- a round of a loop over states s: it leads to the next state or out -/
theorem AWp.loop {S X : Type} {c : Code} (tb : S → Option (X ⊕ S)) (pe : S → EL) (po : S → OL) {RX : X → Exit → EL → OL → Prop}
    (hround : ∀ s y, tb s = some y → AWp P B c (fun e E' O' => match y with | .inr s' => e = .normal ∧ Mat B E' O' (pe s') (po s') | .inl x => e ≠ .normal ∧ RX x e E' O') (pe s) (po s)) :
    ∀ (n : Nat) (s : S) (x : X), (Nat.rec (motive := fun _ => S → Option X) (fun _ => none) (fun _ ih s => (tb s).bind fun | .inr s' => ih s' | .inl x => some x) n : S → Option X) s = some x →
      AWp P B (.loop c) (RX x) (pe s) (po s) := by
  intro n s x hn a w σ Z sm
  refine wp_rds n a w ?_
  induction n generalizing s a w σ Z with
  | zero => cases hn
  | succ n ih =>
    simp only at hn
    obtain ⟨y, hy, hn⟩ := Option.bind_eq_some_iff.1 hn
    refine wp_mono (hround s y hy a w σ Z sm) fun e a' w' ⟨E', O', σ', Z', q, s'⟩ => ?_
    cases y with
    | inr t =>
      obtain ⟨rfl, hm⟩ := q
      obtain ⟨σ'', Z'', s''⟩ := hm a' w' σ' Z' s'
      exact ih t hn a' w' σ'' Z'' s''
    | inl x' =>
      obtain ⟨h1, h2⟩ := q
      simp only [Option.some.injEq] at hn
      subst hn
      cases e with
      | normal => exact absurd rfl h1
      | _ => exact ⟨E', O', σ', Z', h2, s'⟩

/-- a step that the code does not see -/
theorem AWp.ghost {c : Code} (h : Mat B E O E' O') (hc : AWp P B c Q E' O') : AWp P B c Q E O := fun a w σ Z s => by
  obtain ⟨σ', Z', s'⟩ := h a w σ Z s
  exact hc a w σ' Z' s'
theorem Mat.pat (R : List (Nat × Nat)) (E' : EL) (O' : OL) (hB : B.ok) (hok : okPat R E' O' = true) (hE : patE E' E = patE' R E') (hO : patO R O' O = patO' R O') : Mat B E O E' O' :=
  fun _ _ _ Z s => ⟨_, Z, s.pat hB R hok hE hO⟩

theorem look_upd (k : Nat) (x : V) (E : EL) : look ((k, x) :: E) = upd (look E) k x := by
  funext j
  rw [look_cons, upd]
  by_cases h : k = j
  · subst h; simp
  · rw [if_neg h, if_neg (Ne.symm h)]
theorem look_updO (k : Nat) (x : Option Ob) (O : OL) : look ((k, x) :: O) = updO (look O) k x := by
  funext j
  rw [look_cons, updO]
  by_cases h : k = j
  · subst h; simp
  · rw [if_neg h, if_neg (Ne.symm h)]
theorem Mat.freeze {n e sz k off len : Nat} {es fs : List D} (hn : look O n = some (some (.row e sz es))) (hk : look E k = some (.sref n sz off len)) (hle : off + len ≤ es.length) (hfs : fs = (es.drop off).take len) :
    Mat B E O ((k, .d (.list sz fs)) :: E) ((n, none) :: O) := fun a w σ Z s => by
  obtain ⟨Z', s'⟩ := s.freeze hn hk hle
  exact ⟨σ, Z', by rw [look_upd, look_updO, hfs]; exact s'⟩
/-- the whole row -/
theorem Mat.freezeAll {n e sz k len : Nat} {es : List D} (hn : look O n = some (some (.row e sz es))) (hk : look E k = some (.sref n sz 0 len)) (hle : len = es.length) :
    Mat B E O ((k, .d (.list sz es)) :: E) ((n, none) :: O) :=
  Mat.freeze hn hk (by omega) (by rw [hle]; simp)
theorem Mat.begin {n e sz k : Nat} (hB : B.ok) (hsz : 0 < sz) (hn : look O n = none) (h1000 : 1000 ≤ n) (hk : look E k = some .nils) :
    Mat B E O ((k, .sref n sz 0 0) :: E) ((n, some (.row e sz [])) :: O) := fun a w σ Z s => by
  obtain ⟨σ', s'⟩ := s.begin hB (e := e) hsz hn h1000 hk
  exact ⟨σ', Z, by rw [look_upd, look_updO]; exact s'⟩

-- regions

def putE : List Eff → EL → EL
  | [], E => E
  | α :: l, E => putE l (α.wt ++ E)
def putO : List Eff → OL → OL
  | [], O => O
  | α :: l, O => putO l (α.wo ++ O)
theorem look_append {α : Type} (l l' : List (Nat × α)) (k : Nat) : look (l ++ l') k = match look l k with | some x => some x | none => look l' k := by
  induction l with
  | nil => rfl
  | cons p l ih =>
    obtain ⟨j, x⟩ := p
    simp only [List.cons_append, look_cons]
    by_cases h : j = k
    · simp [h]
    · simp only [if_neg h, ih]
theorem app_env (α : Eff) (E : EL) : look (α.wt ++ E) = α.env (look E) := by
  funext k
  rw [look_append]
  unfold Eff.env
  cases look α.wt k <;> rfl
theorem app_obs (α : Eff) (O : OL) : look (α.wo ++ O) = α.obs (look O) := by
  funext k
  rw [look_append]
  unfold Eff.obs
  cases look α.wo k <;> rfl
theorem finEnv_putE : ∀ (l : List Eff) (E : EL), finEnv l (look E) = look (putE l E)
  | [], _ => rfl
  | α :: l, E => by
    simp only [finEnv, putE]
    rw [← finEnv_putE l (α.wt ++ E), app_env]
theorem finObs_putO : ∀ (l : List Eff) (O : OL), finObs l (look O) = look (putO l O)
  | [], _ => rfl
  | α :: l, O => by
    simp only [finObs, putO]
    rw [← finObs_putO l (α.wo ++ O), app_obs]
def wantE : List Eff → EL → List (Option V)
  | [], _ => []
  | α :: l, E => α.nt.map (fun p => look E p.1) ++ wantE l (α.wt ++ E)
def wantE' : List Eff → List (Option V)
  | [] => []
  | α :: l => α.nt.map (fun p => some p.2) ++ wantE' l
def wantO : List Eff → OL → List (Option (Option Ob))
  | [], _ => []
  | α :: l, O => α.no.map (fun p => look O p.1) ++ (α.nf.map (fun n => look O n) ++ wantO l (α.wo ++ O))
def wantO' : List Eff → List (Option (Option Ob))
  | [] => []
  | α :: l => α.no.map (fun p => some (some p.2)) ++ (α.nf.map (fun _ => none) ++ wantO' l)
theorem needs_of_want : ∀ (l : List Eff) (E : EL) (O : OL), wantE l E = wantE' l → wantO l O = wantO' l → needsAll l (look E) (look O)
  | [], _, _, _, _ => trivial
  | α :: l, E, O, h1, h2 => by
    simp only [wantE, wantE'] at h1
    simp only [wantO, wantO'] at h2
    obtain ⟨a1, a2⟩ := List.append_inj h1 (by simp)
    obtain ⟨b1, b2⟩ := List.append_inj h2 (by simp)
    obtain ⟨c1, c2⟩ := List.append_inj b2 (by simp)
    have ih := needs_of_want l (α.wt ++ E) (α.wo ++ O) a2 c2
    refine ⟨⟨map_eq_mem a1, map_eq_mem b1, map_eq_mem c1⟩, ?_⟩
    rw [← app_env, ← app_obs]
    exact ih

theorem AWp.region {id : Nat} {l : List Oper} {effs : List Eff} (hj : OpJs P B l.toArray l effs) (h1 : wantE effs E = wantE' effs) (h2 : wantO effs O = wantO' effs) (h : Q .normal (putE effs E) (putO effs O)) :
    AWp P B (.region id l.toArray false) Q E O := fun a w σ Z s =>
  wp_region_lit (region_text hj (needs_of_want effs E O h1 h2) s fun a' w' σ' Z' s' => ⟨_, _, σ', Z', h, by rw [← finEnv_putE, ← finObs_putO]; exact s'⟩)
theorem AWp.draws {id : Nat} {l : List Oper} {effs : List Eff} (hm : P.follows .mixedOrders = true) (hj : OpJs P B l.toArray l effs) (hc : noConf l.toArray effs = true) (h1 : wantE effs E = wantE' effs) (h2 : wantO effs O = wantO' effs) (h : Q .normal (putE effs E) (putO effs O)) :
    AWp P B (.region id l.toArray true) Q E O := fun a w σ Z s => by
  refine wp_region_any hm ?_
  refine region_any (by simpa using hj) hc (needs_of_want effs E O h1 h2) (fun a' w' σ' Z' s' => ⟨_, _, σ', Z', h, by rw [← finEnv_putE, ← finObs_putO]; exact s'⟩) _ _ (by simp) ?_ ?_ a _ σ Z ?_
  · exact Nat.le_trans (List.length_filter_le _ _) (by simp)
  · intro j o _ hS
    simp only [Array.getD_eq_getD_getElem?, Array.getElem?_replicate] at hS
    split at hS <;> simp at hS
  · have hf : ∀ m, (Array.replicate l.toArray.size false).getD m false = false := fun m => by
      simp only [Array.getD_eq_getD_getElem?, Array.getElem?_replicate]
      split <;> rfl
    rw [runEnv_none _ _ _ _ (fun m _ => hf m), runObs_none _ _ _ _ (fun m _ => hf m)]
    exact s.drew
end

-- results and functions

inductive Res (P : Program) (E : EL) (O : OL) : List ResultVar → List V → Prop
  | nil : Res P E O [] []
  | tmp {t : Nat} {v : V} {rs : List ResultVar} {vs : List V} : look E t = some v → (v.isTop = false) → Res P E O rs vs → Res P E O (.tmp t :: rs) (v :: vs)
  | tmpC {t : Nat} {v : V} {y : D} {rs : List ResultVar} {vs : List V} : look E t = some v → Co v y → Res P E O rs vs → Res P E O (.tmp t :: rs) (.d y :: vs)
  | cell {a nm bt t n : Nat} {ag : Bool} {c : V} {rs : List ResultVar} {vs : List V} : look E a = some (.ptr nm 0 []) → look O nm = some (some (.box bt c)) → TyS P t n ag → c.isAgg = ag → c.sz = n → (c.isTop = false) → Res P E O rs vs → Res P E O (.cell a t :: rs) (c :: vs)
  | cellC {a nm bt t n : Nat} {ag : Bool} {c : V} {y : D} {rs : List ResultVar} {vs : List V} : look E a = some (.ptr nm 0 []) → look O nm = some (some (.box bt c)) → TyS P t n ag → c.isAgg = ag → c.sz = n → Co c y → Res P E O rs vs → Res P E O (.cell a t :: rs) (.d y :: vs)

def resOne (tmps : Array Value) : ResultVar → Sem Value
  | .tmp t => pure (tmps.getD t undef)
  | .cell x t => do loadVar t (← asAddr (tmps.getD x undef))
theorem results_eq (fn : Func) (tmps : Array Value) : results fn tmps = (do
    let vs ← fn.results.mapM (resOne tmps)
    pure (if h : vs.size = 1 then vs[0] else .tuple vs)) := by
  unfold results
  congr 1
theorem run_mapM_cons {α : Type} (f : α → Sem Value) (x : α) (l : List α) (w : World) (v : Value) (vs : List Value) (h1 : (f x).run P w = .ok v w) (h2 : (l.mapM f).run P w = .ok vs w) : ((x :: l).mapM f).run P w = .ok (v :: vs) w := by
  rw [List.mapM_cons]
  simp only [Sem.run_bind, h1, h2, Result.andThen_ok, Sem.run_pure]

theorem Res.run {E : EL} {O : OL} {a : Act} {w : World} {σ : Nat → Option Nat} {Z : Nat → Prop} (s : Sim B (look E) (look O) a w σ Z) : ∀ {rs : List ResultVar} {vs : List V}, Res P E O rs vs →
    ∃ cs : List Value, RepVs (look O) σ Z w cs vs ∧ (rs.mapM (resOne a.tmps)).run P w = .ok cs w
  | _, _, .nil => ⟨[], trivial, rfl⟩
  | _, _, .tmp (t := t) hl hnt hr => by
    obtain ⟨cs, h2, h3⟩ := Res.run s hr
    obtain ⟨v, hv, hrep⟩ := s.env t _ hl
    exact ⟨v :: cs, ⟨hrep.to hnt, h2⟩, run_mapM_cons _ _ _ w v cs (by simp [resOne, hv]) h3⟩
  | _, _, .tmpC (t := t) hl hco hr => by
    obtain ⟨cs, h2, h3⟩ := Res.run s hr
    obtain ⟨v, hv, hrep⟩ := s.env t _ hl
    exact ⟨v :: cs, ⟨hco.repV (hrep.to hco.notTup), h2⟩, run_mapM_cons _ _ _ w v cs (by simp [resOne, hv]) h3⟩
  | _, _, .cell (a := x) (nm := nm) (bt := bt) (c := c) hl ho ht hag hsz _ hr => by
    obtain ⟨cs, h2, h3⟩ := Res.run s hr
    obtain ⟨v, hv, hrep⟩ := s.env x _ hl
    have hlv : live (look O) nm := ⟨_, ho⟩
    obtain ⟨b, hb, hvv⟩ := rep_ptr hrep hlv
    obtain ⟨b', cells, hb', hw, hone, hsize, hc⟩ := s.obj nm _ ho
    have : b' = b := Option.some.inj (hb'.symm.trans hb)
    subst this
    have hat : cellsAt w b' 0 cells.toList := fun j u hj => by rw [Nat.zero_add, cell_of_row w b' j cells bt (0, 0) hw]; simpa using hj
    have hrun := run_loadVar_at ht hat (by rw [Array.length_toList, hsize, hsz]) (fun h => by subst hag; subst hsz; exact V.sz_one h)
    exact ⟨_ :: cs, ⟨RepV.of_cells hc (by simpa using hsize) hone _ hag, h2⟩, run_mapM_cons _ _ _ w _ cs (by simp [resOne, hv, hvv, asAddr, hrun]) h3⟩
  | _, _, .cellC (a := x) (nm := nm) (bt := bt) (c := c) hl ho ht hag hsz hco hr => by
    obtain ⟨cs, h2, h3⟩ := Res.run s hr
    obtain ⟨v, hv, hrep⟩ := s.env x _ hl
    have hlv : live (look O) nm := ⟨_, ho⟩
    obtain ⟨b, hb, hvv⟩ := rep_ptr hrep hlv
    obtain ⟨b', cells, hb', hw, hone, hsize, hc⟩ := s.obj nm _ ho
    have : b' = b := Option.some.inj (hb'.symm.trans hb)
    subst this
    have hat : cellsAt w b' 0 cells.toList := fun j u hj => by rw [Nat.zero_add, cell_of_row w b' j cells bt (0, 0) hw]; simpa using hj
    have hrun := run_loadVar_at ht hat (by rw [Array.length_toList, hsize, hsz]) (fun h => by subst hag; subst hsz; exact V.sz_one h)
    exact ⟨_ :: cs, ⟨hco.repV (RepV.of_cells hc (by simpa using hsize) hone _ hag), h2⟩, run_mapM_cons _ _ _ w _ cs (by simp [resOne, hv, hvv, asAddr, hrun]) h3⟩

/-- how results are handed back: one as it is, others as a tuple -/
def resV : List V → V
  | [v] => v
  | vs => .tup vs

/-- at a function's end -/
def Fin (P : Program) (B : Base) (rs : List ResultVar) (res : V) (robs : OL) (e : Exit) (E : EL) (O : OL) : Prop :=
  (e = .ret ∨ e = .normal) ∧ ∃ E1, Mat B E O E1 robs ∧ ∃ vs, Res P E1 robs rs vs ∧ res = resV vs

def argE : Nat → List V → EL
  | _, [] => []
  | k, v :: vs => (k, v) :: argE (k + 1) vs
theorem look_argE : ∀ (vs : List V) (k j : Nat), look (argE k vs) j = if k ≤ j then vs[j - k]? else none
  | [], k, j => by simp [argE, look]
  | v :: vs, k, j => by
    simp only [argE]
    rw [look_cons, look_argE vs (k + 1) j]
    by_cases h : k = j
    · subst h; simp
    · rw [if_neg h]
      by_cases h1 : k ≤ j
      · rw [if_pos (by omega), if_pos h1, show j - k = (j - (k + 1)) + 1 from by omega, List.getElem?_cons_succ]
      · rw [if_neg (by omega), if_neg h1]

theorem RepVs.get {ob : Obs} {σ : Nat → Option Nat} {Z : Nat → Prop} {w : World} : ∀ {cs : List Value} {vs : List V}, RepVs ob σ Z w cs vs → ∀ (k : Nat) (v : V), vs[k]? = some v → ∃ c, cs[k]? = some c ∧ RepV ob σ Z w c v
  | [], [], _, _, _, h => by simp at h
  | _ :: _, _ :: _, h, 0, v, hk => by simp at hk; subst hk; exact ⟨_, rfl, h.1⟩
  | _ :: _, _ :: _, h, k + 1, v, hk => by obtain ⟨c, h1, h2⟩ := RepVs.get h.2 k v (by simpa using hk); exact ⟨c, by simpa using h1, h2⟩
  | [], _ :: _, h, _, _, _ => h.elim
  | _ :: _, [], h, _, _, _ => h.elim
theorem RepVs.length {ob : Obs} {σ : Nat → Option Nat} {Z : Nat → Prop} {w : World} : ∀ {cs : List Value} {vs : List V}, RepVs ob σ Z w cs vs → cs.length = vs.length
  | [], [], _ => rfl
  | _ :: _, _ :: _, h => by simp [RepVs.length h.2]
  | [], _ :: _, h => h.elim
  | _ :: _, [], h => h.elim

def noTupB (x : V) : Bool := !x.isTop

theorem look_map_some (pobs : List (Nat × Ob)) : (look (pobs.map fun p => (p.1, some p.2)) : Obs) = obOf pobs := by
  funext n
  induction pobs with
  | nil => rfl
  | cons p l ih =>
    obtain ⟨j, o⟩ := p
    simp only [List.map_cons, obOf] at ih ⊢
    rw [look_cons, look_cons]
    by_cases h : j = n
    · simp [h]
    · rw [if_neg h, if_neg h]; exact ih

theorem AC.of_code {f : FuncId} {fn : Func} {c : Code} {args : List V} {pobs : List (Nat × Ob)} {res : V} {robs : OL} (hf : P.funcs[f]? = some fn) (hb : fn.body = some c) (hnt : args.all noTupB = true)
    (hle : args.length ≤ fn.ntmps)
    (h : ∀ B : Base, B.ok → B.N = fn.ntmps → AWp P B c (Fin P B fn.results.toList res robs) (argE 0 args) (pobs.map fun p => (p.1, some p.2))) : AC P f args pobs res robs := by
  intro w σ Z cargs pre
  have hlen := pre.args.length
  let B : Base := { w0 := w, own := fun k => ∃ m, live (obOf pobs) m ∧ σ m = some k, pin := fun n => if n < 1000 ∧ (look pobs n).isSome then some (σ n) else none, z0 := Z, N := fn.ntmps }
  have hB : B.ok := by
    intro n b hn
    by_cases h : n < 1000 ∧ (look pobs n).isSome = true
    · exact h.1
    · simp [B, h] at hn
  have hN : cargs.toArray.size + (fn.ntmps - cargs.toArray.size) = fn.ntmps := by simp; omega
  have hsim : Sim B (look (argE 0 args)) (look (pobs.map fun p => (p.1, some p.2))) { tmps := cargs.toArray ++ Array.replicate (fn.ntmps - cargs.toArray.size) undef, defers := [] } w σ Z := by
    rw [look_map_some]
    refine ⟨rfl, by simp [B]; omega, ?_, pre.obj, pre.inj, ?_, pre.zlt, ?_, fun _ _ _ _ => rfl, rfl, rfl, rfl, Nat.le_refl _, fun _ h => h, fun _ h => .inl h, fun _ _ _ => rfl⟩
    · intro k x hk
      rw [look_argE] at hk
      simp only [Nat.zero_le, if_true, Nat.sub_zero] at hk
      obtain ⟨v, h1, h2⟩ := pre.args.get k x hk
      have hlt : k < cargs.length := (List.getElem?_eq_some_iff.1 h1).1
      refine ⟨v, ?_, RepT.of h2 ?_⟩
      · rw [Array.getElem?_append_left (by simpa using hlt)]; simpa using h1
      · have := List.all_eq_true.1 hnt x (List.mem_of_getElem? hk)
        simpa [noTupB] using this
    · exact fun n b hl hb => ⟨pre.blk n b hl hb, .inr ⟨n, hl, hb⟩⟩
    · intro n b hn _
      by_cases h : n < 1000 ∧ (look pobs n).isSome = true
      · simpa [B, h] using hn
      · simp [B, h] at hn
  refine calls_of_wp hf hb ?_
  refine wp_mono (h B hB rfl _ w σ Z hsim) fun e a' w' ⟨E', O0, σ1, Z1, ⟨he, E1, hmat, vs, hres, hr⟩, s1⟩ => ?_
  obtain ⟨σ', Z', s'⟩ := hmat a' w' σ1 Z1 s1
  obtain ⟨cs, g2, g3⟩ := hres.run s'
  have hrun : (results fn a'.tmps).run P w' = .ok (if h : cs.toArray.size = 1 then cs.toArray[0] else .tuple cs.toArray) w' := by
    rw [results_eq, Sem.run_bind, Array.mapM_eq_mapM_toList]
    have : (Functor.map List.toArray (fn.results.toList.mapM (resOne a'.tmps)) : Sem (Array Value)).run P w' = .ok cs.toArray w' := by
      rw [map_eq_pure_bind, Sem.run_bind, g3, Result.andThen_ok]; rfl
    rw [this]
    rfl
  have hrep : RepT (look robs) σ' Z' w' (if h : cs.toArray.size = 1 then cs.toArray[0] else .tuple cs.toArray) res := by
    subst hr
    match vs, cs, g2 with
    | [v], [c], g2 =>
      simp only [resV, List.size_toArray, List.length_cons, List.length_nil, Nat.zero_add, dite_true]
      refine RepT.of g2.1 ?_
      have := g2.1
      cases v <;> first | rfl | simp [RepV, V.isAgg, V.rep] at this
    | [], [], _ => exact ⟨[], rfl, trivial⟩
    | v :: v' :: vs, c :: c' :: cs, g2 => exact ⟨_, by simp, g2⟩
  have hpin : ∀ n, n < 1000 → live (obOf pobs) n → B.pin n = some (σ n) := fun n hn hl => by
    obtain ⟨o, ho⟩ := hl
    have : (look pobs n).isSome = true := by
      simp only [obOf, Option.map_eq_some_iff] at ho
      obtain ⟨o', h1, _⟩ := ho
      simp [h1]
    simp [B, hn, this]
  have hpost : Post (obOf pobs) w σ Z res robs _ w' σ' Z' := ⟨hrep, s'.obj, s'.inj, fun n hn hl hl' => s'.pin n _ (hpin n hn hl) hl', fun n b hn hl hl' hb => s'.shp n b (by rw [← hb]; exact hpin n hn hl) hl',
    s'.blk, s'.zlt, s'.zsub, s'.znew, s'.os, s'.tape, s'.output, s'.size, s'.block⟩
  rcases he with rfl | rfl
  · exact bodyPost_ret hrun s'.dfr ⟨_, σ', Z', rfl, hpost⟩
  · exact bodyPost_end hrun s'.dfr ⟨_, σ', Z', rfl, hpost⟩

end Go.Vc
