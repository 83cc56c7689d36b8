/- slices.SortFunc with a comparator that captures variables. -/
import Derived.Test.YtgcilleccigmdaaGreatDoorVcSG
namespace Go.Vc
open Go Go.Sort Go.Proofs
variable {P : Program}
mutual
/-- a value of which the cells are known: functions, structs of functions -/
def V.rigid : V → Bool
 | .func _ [] => true
 | .st fs => V.rigidL fs
 | _ => false
def V.rigidL : List V → Bool
 | [] => true
 | f :: fs => V.rigid f && V.rigidL fs
end
section
variable {ob ob' : Obs} {σ σ' : Nat → Option Nat} {Z Z' : Nat → Prop} {w w' : World}
mutual
theorem V.rep_rig : ∀ (x : V) (cs : List Value), V.rigid x = true → V.rep ob σ Z w x cs → V.rep ob' σ' Z' w' x cs
 | .func _ [], _, _, h => h
 | .func _ (_ :: _), _, hp, _ => by simp [V.rigid] at hp
 | .st fs, cs, hp, h => V.repS_rig fs cs hp h
 | .junk, _, hp, _ => by simp [V.rigid] at hp
 | .d _, _, hp, _ => by simp [V.rigid] at hp
 | .nils, _, hp, _ => by simp [V.rigid] at hp
 | .dptr _, _, hp, _ => by simp [V.rigid] at hp
 | .ptr .., _, hp, _ => by simp [V.rigid] at hp
 | .mref .., _, hp, _ => by simp [V.rigid] at hp
 | .sref .., _, hp, _ => by simp [V.rigid] at hp
 | .tup _, _, hp, _ => by simp [V.rigid] at hp
 | .opt .., _, hp, _ => by simp [V.rigid] at hp
theorem V.repS_rig : ∀ (xs : List V) (cs : List Value), V.rigidL xs = true → V.repS ob σ Z w xs cs → V.repS ob' σ' Z' w' xs cs
 | [], _, _, h => h
 | x :: xs, cs, hp, h => by
  simp only [V.rigidL, Bool.and_eq_true] at hp
  obtain ⟨c1, c2, h1, h2, h3, h4, h5⟩ := h
  exact ⟨c1, c2, h1, h2, h3, V.rep_rig x c1 hp.1 h4, V.repS_rig xs c2 hp.2 h5⟩
end
mutual
theorem V.rep_one_rig : ∀ (x : V) (cs cs' : List Value), V.rigid x = true → V.rep ob σ Z w x cs → V.rep ob' σ' Z' w' x cs' → cs = cs'
 | .func _ [], _, _, _, h, h' => by
  obtain ⟨c, h1, h2⟩ := h
  obtain ⟨c', h1', h2'⟩ := h'
  have e : c = [] := h2
  have e' : c' = [] := h2'
  rw [h1, h1', e, e']
 | .func _ (_ :: _), _, _, hp, _, _ => by simp [V.rigid] at hp
 | .st fs, cs, cs', hp, h, h' => V.repS_one_rig fs cs cs' hp h h'
 | .junk, _, _, hp, _, _ => by simp [V.rigid] at hp
 | .d _, _, _, hp, _, _ => by simp [V.rigid] at hp
 | .nils, _, _, hp, _, _ => by simp [V.rigid] at hp
 | .dptr _, _, _, hp, _, _ => by simp [V.rigid] at hp
 | .ptr .., _, _, hp, _, _ => by simp [V.rigid] at hp
 | .mref .., _, _, hp, _, _ => by simp [V.rigid] at hp
 | .sref .., _, _, hp, _, _ => by simp [V.rigid] at hp
 | .tup _, _, _, hp, _, _ => by simp [V.rigid] at hp
 | .opt .., _, _, hp, _, _ => by simp [V.rigid] at hp
theorem V.repS_one_rig : ∀ (xs : List V) (cs cs' : List Value), V.rigidL xs = true → V.repS ob σ Z w xs cs → V.repS ob' σ' Z' w' xs cs' → cs = cs'
 | [], _, _, _, h, h' => by
  have e : _ = [] := h
  have e' : _ = [] := h'
  rw [e, e']
 | x :: xs, cs, cs', hp, h, h' => by
  simp only [V.rigidL, Bool.and_eq_true] at hp
  obtain ⟨c1, c2, h1, h2, h3, h4, h5⟩ := h
  obtain ⟨d1, d2, g1, g2, g3, g4, g5⟩ := h'
  rw [h1, g1, V.rep_one_rig x c1 d1 hp.1 h4 g4, V.repS_one_rig xs c2 d2 hp.2 h5 g5]
end
def V.noobC (ns : List Nat) : V → Bool
 | .ptr n _ _ => ns.contains n
 | x => V.noob x
def V.noobCL (ns : List Nat) : List V → Bool
 | [] => true
 | f :: fs => V.noobC ns f && V.noobCL ns fs
theorem V.rep_noobC {ns : List Nat} (hx : Ext Z Z' w w') (ho : ∀ n ∈ ns, ob' n = ob n) (x : V) (cs : List Value) (hp : V.noobC ns x = true) (h : V.rep ob σ Z w x cs) : V.rep ob' σ Z' w' x cs := by
 cases x with
 | ptr n off p =>
  have hn : n ∈ ns := by simpa [V.noobC] using hp
  have e := ho n hn
  obtain ⟨h1, h2⟩ := h
  refine ⟨by unfold used; rw [e]; exact h1, fun ⟨o, hl⟩ => h2 ⟨o, by rw [← e]; exact hl⟩⟩
 | _ => exact V.rep_noob hx _ cs hp h
theorem V.repL_noobC {ns : List Nat} (hx : Ext Z Z' w w') (ho : ∀ n ∈ ns, ob' n = ob n) : ∀ (xs : List V) (cs : List Value), V.noobCL ns xs = true → V.repL ob σ Z w xs cs → V.repL ob' σ Z' w' xs cs
 | [], _, _, h => h
 | x :: xs, cs, hp, h => by
  simp only [V.noobCL, Bool.and_eq_true] at hp
  obtain ⟨c, r, h1, h0, h2, h3⟩ := h
  exact ⟨c, r, h1, h0, V.rep_noobC hx ho x [c] hp.1 h2, V.repL_noobC hx ho xs r hp.2 h3⟩
theorem V.repL_args2 : ∀ (xs : List V) (cs : List Value), xs.all (fun x => !x.isAgg) = true → V.repL ob σ Z w xs cs → RepVs ob σ Z w cs xs
 | [], cs, _, h => by
  have : cs = [] := h
  subst this; trivial
 | x :: xs, cs, ha, h => by
  simp only [List.all_cons, Bool.and_eq_true] at ha
  obtain ⟨c, r, h1, h0, h2, h3⟩ := h
  subst h1
  refine ⟨?_, V.repL_args2 xs r ha.2 h3⟩
  unfold RepV
  rw [if_neg (by simpa using ha.1)]
  exact ⟨h2, .inr h0⟩
end
def someO (l : List (Nat × Ob)) : OL := l.map fun p => (p.1, some p.2)
theorem look_mem' {α : Type} : ∀ {l : List (Nat × α)} {n : Nat} {o : α}, look l n = some o → (n, o) ∈ l
 | [], _, _, h => by simp [look] at h
 | (m, x) :: l, n, o, h => by
  rw [look_cons] at h
  split at h
  ·rename_i e
   cases h
   rw [e]; exact List.mem_cons_self
  ·exact List.mem_cons_of_mem _ (look_mem' h)
theorem look_keys {α : Type} : ∀ {l : List (Nat × α)} {n : Nat}, n ∈ keys l → ∃ o, look l n = some o
 | [], _, h => by simp [keys] at h
 | (m, x) :: l, n, h => by
  rw [look_cons]
  by_cases e : m = n
  ·exact ⟨x, by rw [if_pos e]⟩
  ·rw [if_neg e]
   simp only [keys, List.map_cons, List.mem_cons] at h
   rcases h with h | h
   ·exact (e h.symm).elim
   ·exact look_keys h
theorem look_someO (l : List (Nat × Ob)) : (look (someO l) : Obs) = obOf l := look_map_some l
theorem Post.grownO {cob : List (Nat × Ob)} (hmc : ∀ p ∈ cob, p.1 < 1000) (hcb : ∀ p ∈ cob, ∃ t x, p.2 = .box t x ∧ V.rigid x = true) {W w' : World} {σ σ' : Nat → Option Nat} {Z Z' : Nat → Prop} {res : V} {cv : Value} {args : List V} {cargs : List Value}
  (h : Post (obOf cob) W σ Z res (someO cob) cv w' σ' Z') (pre : Pre (obOf cob) W σ Z args cargs) (hd : W.drawn ≤ w'.drawn) : ∃ q os, w' = grow (W.drewN q) os := by
 refine ⟨w'.drawn - W.drawn, w'.heap.extract W.heap.size w'.heap.size, ?_⟩
 have hsm : ∀ k, k < W.heap.size → w'.heap[k]? = W.heap[k]? := fun k hk => by
  by_cases ho : ∃ m, live (obOf cob) m ∧ σ m = some k
  ·obtain ⟨m, ⟨o, hm⟩, hs⟩ := ho
   have hl : look cob m = some o := by
    unfold obOf at hm
    obtain ⟨o', h1, h2⟩ := Option.map_eq_some_iff.1 hm
    rw [h1, Option.some.inj h2]
   have hmem := look_mem' hl
   obtain ⟨t, x, hx, hrig⟩ := hcb _ hmem
   simp only at hx
   subst hx
   obtain ⟨b, cs, h1, h2, h3, h4, h5⟩ := pre.obj m _ hm
   have hm' : look (someO cob) m = some (some (.box t x)) := by rw [look_someO]; exact hm
   obtain ⟨b', cs', g1, g2, g3, g4, g5⟩ := h.obj m _ hm'
   have hp := h.pin m (hmc _ hmem) ⟨_, hm⟩ ⟨_, hm'⟩
   rw [hs] at h1 hp
   cases h1
   rw [hp] at g1
   cases g1
   have e := V.rep_one_rig x _ _ hrig h5 g5
   have : cs = cs' := Array.toList_inj.1 e
   rw [g2, h2, this]
  ·exact h.block k hk ho
 have hh : w'.heap = W.heap ++ w'.heap.extract W.heap.size w'.heap.size := by
  refine Array.ext_getElem? fun k => ?_
  by_cases hk : k < W.heap.size
  ·rw [Array.getElem?_append_left hk]
   exact hsm k hk
  ·rw [Array.getElem?_append_right (by omega), Array.getElem?_extract]
   have := h.size
   by_cases hk' : k < w'.heap.size
   ·rw [if_pos (by omega)]
    congr 1
    omega
   ·rw [Array.getElem?_eq_none (by omega), if_neg (by omega)]
 have h1 := h.os; have h2 := h.tape; have h3 := h.output
 obtain ⟨a1, a2, a3, a4, a5⟩ := w'
 obtain ⟨b1, b2, b3, b4, b5⟩ := W
 simp only [grow, World.drewN] at *
 subst h1; subst h2; subst h3
 congr 1
 omega
theorem AC.sortFnO {nm : Nat} {cob : List (Nat × Ob)} {f g : FuncId} {e : TypeId} {sz : Nat} {ds : List D} {caps : List V} (cf : _root_.Fin ds.length → _root_.Fin ds.length → Int) (hS : SortOk P f sz) (hg : FnOk P g) (hag : ∀ x ∈ ds, x.isAgg = true) (hmc : ∀ p ∈ cob, p.1 ≠ nm ∧ p.1 < 1000) (hcb : ∀ p ∈ cob, ∃ t x, p.2 = .box t x ∧ V.rigid x = true) (hcp : V.noobCL (keys cob) caps = true)
  (hca : caps.all (fun x => !x.isAgg) = true) (hO : SWO (ltOf cf)) (hn : ds.length < 4611686018427387904) (hc : ∀ i j, AC P g ([.d ds[i], .d ds[j]] ++ caps) cob (.d (.int .i64 (cf i j))) (someO cob)) :
  AC P f [.sref nm sz 0 ds.length, .func g caps] ((nm, .row e sz ds) :: cob) (.tup []) ((nm, some (.row e sz ((sortIx ds.length cf).map fun i => ds[i]))) :: someO cob) := by
 intro w σ Z cargs pre
 generalize hBOe : obOf ((nm, Ob.row e sz ds) :: cob) = BO at pre
 have hBn : BO nm = some (some (.row e sz ds)) := by rw [← hBOe]; unfold obOf; rw [look_cons, if_pos rfl]; rfl
 have hBO : ∀ n, n ≠ nm → BO n = obOf cob n := fun n h => by rw [← hBOe]; unfold obOf; rw [look_cons, if_neg (Ne.symm h)]
 have hlv : live BO nm := ⟨_, hBn⟩
 have hob := pre.obj nm _ hBn
 have hkey : ∀ n ∈ keys cob, n ≠ nm := fun n hn => by
  obtain ⟨o, h⟩ := look_keys hn
  exact (hmc _ (look_mem' h)).1
 have hlook : ∀ n o, look cob n = some o → n ≠ nm ∧ BO n = some (some o) := fun n o h => by
  have hne := (hmc _ (look_mem' h)).1
  exact ⟨hne, by rw [hBO n hne]; unfold obOf; rw [h]; rfl⟩
 have hlc : ∀ n, live (obOf cob) n → live BO n := fun n ⟨o, h⟩ => by
  have hl : look cob n = some o := by
   unfold obOf at h
   obtain ⟨o', h1, h2⟩ := Option.map_eq_some_iff.1 h
   rw [h1, Option.some.inj h2]
  exact ⟨o, (hlook n o hl).2⟩
 have hbox : ∀ n o, look cob n = some o → ∀ (ob' : Obs) (Z' : Nat → Prop) (w' : World) (σ' : Nat → Option Nat), (∀ q, σ n = some q → w'.heap[q]? = w.heap[q]?) → o.rep ob' σ Z' w' n := fun n o h ob' Z' w' σ' hq => by
  obtain ⟨t, x, hx, hrig⟩ := hcb _ (look_mem' h)
  simp only at hx
  subst hx
  obtain ⟨b, cs, h1, h2, h3, h4, h5⟩ := pre.obj n _ (hlook n _ h).2
  exact ⟨b, cs, h1, (hq b h1).trans h2, h3, h4, V.rep_rig x _ hrig h5⟩
 have hbsz : ∀ n o, look cob n = some o → ∀ q, σ n = some q → q < w.heap.size := fun n o h q hq => Ob.lt (pre.obj n o (hlook n o h).2) hq
 have hbne : ∀ n o, look cob n = some o → ∀ q, σ n = some q → ∀ b, σ nm = some b → q ≠ b := fun n o h q hq b hb e => by
  subst e
  exact (hlook n o h).1 (pre.inj n nm q ⟨_, (hlook n o h).2⟩ hlv hq hb)
 have hBL : ∀ n, live BO n → n = nm ∨ ∃ o, look cob n = some o := fun n ⟨o, h⟩ => by
  by_cases e : n = nm
  ·exact .inl e
  ·rw [hBO n e] at h
   unfold obOf at h
   obtain ⟨o', h1, _⟩ := Option.map_eq_some_iff.1 h
   exact .inr ⟨o', h1⟩
 obtain ⟨hlen, hperm, _⟩ := sortIx_ok hO
 generalize hre : (sortIx ds.length cf).map (fun i => ds[i]) = res at *
 have hRO : ∀ n o, look ((nm, some (Ob.row e sz res)) :: someO cob) n = some (some o) → (n = nm ∧ o = .row e sz res) ∨ (n ≠ nm ∧ look cob n = some o) := fun n o h => by
  rw [look_cons] at h
  split at h
  ·rename_i hn; cases h; exact .inl ⟨hn.symm, rfl⟩
  ·rename_i hn
   refine .inr ⟨fun e => hn e.symm, ?_⟩
   rw [look_someO] at h
   unfold obOf at h
   obtain ⟨o', h1, h2⟩ := Option.map_eq_some_iff.1 h
   rw [h1, Option.some.inj h2]
 have hliv : ∀ n, live (look ((nm, some (Ob.row e sz res)) :: someO cob)) n → live BO n := fun n ⟨o, h⟩ => by
  rcases hRO n o h with ⟨rfl, _⟩ | ⟨_, hl⟩
  ·exact hlv
  ·exact ⟨_, (hlook n o hl).2⟩
 match cargs, pre.args with
 | [v, v2], ⟨ha, ha2, _⟩ =>
  have hr : V.rep BO σ Z w (.sref nm sz 0 ds.length) [v] := And.left ha
  obtain ⟨_, hr⟩ := hr
  obtain ⟨ad, c, hv, hc1, hc2, hd⟩ := hr hlv
  have hv : v = .slice ad ds.length c := by simpa using hv
  subst hv
  have hr2 : V.rep BO σ Z w (.func g caps) [v2] := And.left ha2
  obtain ⟨cvs, hv2, hcaps⟩ := hr2
  have hv2 : v2 = .func (.func g) #[] cvs.toArray := by simpa using hv2
  subst hv2
  by_cases hx : ds.length = 0
  ·have hx' : ds = [] := List.eq_nil_of_length_eq_zero hx
   have hy : res = [] := by rw [← hre]; exact List.eq_nil_of_length_eq_zero (by simp [hlen, hx])
   have hcall : Calls P f #[.slice ad ds.length c, .func (.func g) #[] cvs.toArray] w fun e w' => e = .returned (.tuple #[]) ∧ w' = w := by rw [hx]; exact hS.none ad c (.func (.func g) #[] cvs.toArray) w
   refine hcall.mono fun ex w' ⟨he, hw⟩ => ?_
   subst he; subst hw
   refine ⟨_, σ, Z, rfl, ⟨⟨[], rfl, trivial⟩, fun n o hn => ?_, fun n k q hn hk => pre.inj n k q (hliv n hn) (hliv k hk), fun _ _ _ _ => rfl, fun _ _ _ _ _ _ => rfl, fun n q hn hq => ⟨pre.blk n q (hliv n hn) hq, .inr ⟨n, hliv n hn, hq⟩⟩, pre.zlt, fun _ h => h, fun _ h => .inl h, rfl, rfl, rfl, Nat.le_refl _, fun _ _ _ => rfl⟩⟩
   rcases hRO n o hn with ⟨rfl, rfl⟩ | ⟨_, hl⟩
   ·rw [hy]
    rw [hx'] at hob
    exact hob
   ·exact hbox n o hl _ _ _ σ fun q _ => rfl
  ·subst hre
   have hpos : 0 < ds.length := by omega
   rcases hd with ⟨_, _, _, k4⟩ | ⟨b, e', hb, hab, _, _⟩
   ·omega
   ·have had : ad = some ⟨b, 0, none⟩ := by
     rcases hab with h | h
     ·omega
     ·simpa using h
    subst had
    obtain ⟨cur, cap, cs, m1, m2, m3, m4, m5, m6, m7⟩ := Ob.row_cells hob hb
    have hsz0 : 0 < sz := hob.1
    obtain ⟨enc, e1, e2, e3⟩ := repL_enc ds cs hob.2.1 m5
    letI inh : Inhabited (_root_.Fin ds.length) := ⟨⟨0, hpos⟩⟩
    have hblt : b < w.heap.size := (Array.getElem?_eq_some_iff.1 m1).1
    have hz : ∀ q, Z q → q ≠ b := fun q hq e => pre.blk nm b hlv hb (e ▸ hq)
    have hone : ∀ x, ∀ v ∈ enc x, v.oneCell' = true := fun x => D.rep_one _ _ (e1 x)
    have hofn : (Array.ofFn (id : _root_.Fin ds.length → _root_.Fin ds.length)).toList.flatMap enc = cs := by
     rw [e3, List.flatMap_def, Array.toList_ofFn, List.map_ofFn]; rfl
    have hsz1 : (Array.ofFn (id : _root_.Fin ds.length → _root_.Fin ds.length)).size = ds.length := by simp
    have hF : (flatK enc sz (Array.ofFn (id : _root_.Fin ds.length → _root_.Fin ds.length))).toList = cs := (flatK_list e2 _).trans hofn
    have hH : HoldsK enc sz w b 0 (Array.ofFn (id : _root_.Fin ds.length → _root_.Fin ds.length)) := fun j hj => by
     have hj' : j < ds.length * sz := by simpa using hj
     refine ⟨?_, by simp [World.frozen?, m1]⟩
     rw [Nat.zero_add, cell_of_row w b j cur e (0, 0) m1]
     have h1 := congrArg (fun l => l[j]?) m7
     simp only [List.getElem?_take, if_pos hj'] at h1
     have h2 := congrArg (fun l => l[j]?) hF
     simp only [Array.getElem?_toList, Array.getElem?_eq_getElem hj] at h2
     rw [← Array.getElem?_toList, h1, ← h2, getElem!_pos _ j hj]; rfl
    have hheap : ∀ (m : Nat) (dk : Array (_root_.Fin ds.length)) (os : Array Obj), (sortWorldK enc sz w b 0 m dk os).heap = w.heap.modify b (onCells (putCells id 0 (flatK enc sz dk))) ++ os := fun _ _ _ => rfl
    have hsame : ∀ (m : Nat) (dk : Array (_root_.Fin ds.length)) (os : Array Obj) (q : Nat), q < w.heap.size → q ≠ b → (sortWorldK enc sz w b 0 m dk os).heap[q]? = w.heap[q]? := fun m dk os q hq hne => by
     rw [hheap, Array.getElem?_append_left (by simpa using hq), Array.getElem?_modify, if_neg (Ne.symm hne)]
    have hext : ∀ (m : Nat) (dk : Array (_root_.Fin ds.length)) (os : Array Obj), Ext Z Z w (sortWorldK enc sz w b 0 m dk os) := fun m dk os => ⟨fun _ h => h, fun q hq => hsame m dk os q (pre.zlt q hq) (hz q hq)⟩
    have hsize : ∀ (m : Nat) (dk : Array (_root_.Fin ds.length)) (os : Array Obj), w.heap.size ≤ (sortWorldK enc sz w b 0 m dk os).heap.size := fun m dk os => by rw [hheap]; simp
    have hcmp : CmpLays P g cvs.toArray enc sz cf b 0 (Array.ofFn (id : _root_.Fin ds.length → _root_.Fin ds.length)).size w := fun m os dk _ i j => by
     have pre2 : Pre (obOf cob) (sortWorldK enc sz w b 0 m dk os) σ Z ([.d ds[i], .d ds[j]] ++ caps) ([.agg (enc i).toArray, .agg (enc j).toArray] ++ cvs) := by
      refine ⟨⟨?_, ?_, ?_⟩, fun n o h => ?_, fun n k q hn hk => pre.inj n k q (hlc n hn) (hlc k hk), fun n q hn hq => pre.blk n q (hlc n hn) hq, fun q hq => Nat.lt_of_lt_of_le (pre.zlt q hq) (hsize m dk os)⟩
      ·have := hag ds[i] (List.getElem_mem _)
       unfold RepV
       rw [if_pos (by exact this)]
       exact ⟨enc i, rfl, D.rep_ext (hext m dk os) _ _ (e1 i)⟩
      ·have := hag ds[j] (List.getElem_mem _)
       unfold RepV
       rw [if_pos (by exact this)]
       exact ⟨enc j, rfl, D.rep_ext (hext m dk os) _ _ (e1 j)⟩
      ·exact V.repL_args2 caps cvs hca (V.repL_noobC (hext m dk os) (fun n hn => (hBO n (hkey n hn)).symm) caps cvs hcp hcaps)
      ·have hl : look cob n = some o := by
        unfold obOf at h
        obtain ⟨o', h1, h2⟩ := Option.map_eq_some_iff.1 h
        rw [h1, Option.some.inj h2]
       exact hbox n o hl _ _ _ σ fun q hq => hsame m dk os q (hbsz n o hl q hq) (hbne n o hl q hq b hb)
     have hcl := hc i j _ _ _ _ pre2
     have ea : (#[.agg (enc i).toArray, .agg (enc j).toArray] ++ cvs.toArray : Array Value) = ([.agg (enc i).toArray, .agg (enc j).toArray] ++ cvs : List Value).toArray := by simp
     rw [ea]
     refine (Calls.drawn hcl).mono fun ex w' ⟨⟨cv, σ', Z', he, hp⟩, hdr⟩ => ?_
     have hcv : cv = .int .i64 (cf i j) := rep_int hp.res
     subst hcv
     exact ⟨he, hp.grownO (fun p hp => (hmc p hp).2) hcb pre2 (hdr _ he)⟩
    have hcall := hS.some enc e2 hone cf hO g cvs.toArray b 0 c (Array.ofFn (id : _root_.Fin ds.length → _root_.Fin ds.length)) w (fun args w => hg.run args w) hcmp hH hblt (by rw [hsz1]; exact hn)
    rw [hsz1] at hcall
    refine hcall.mono fun ex w' ⟨he, n, os, hw'⟩ => ?_
    subst he
    have hdr : (pdq (ltOf cf) (Array.ofFn id) 0 ds.length (Lib.bitLen ds.length) true true).toList = sortIx ds.length cf := (sortIx_pos hpos).symm
    generalize pdq (ltOf cf) (Array.ofFn id) 0 ds.length (Lib.bitLen ds.length) true true = dr at hdr hw'
    have hdrs : dr.size = ds.length := by rw [← Array.length_toList, hdr, hlen]
    have hFl : (flatK enc sz dr).toList = (sortIx ds.length cf).flatMap enc := by rw [flatK_list e2, hdr]
    have hFs : (flatK enc sz dr).size = ds.length * sz := by rw [size_flatK, hdrs]
    subst hw'
    have hcl2 : ds.length * sz ≤ cur.size := by rw [m2]; exact Nat.mul_le_mul_right _ m3
    have k1 : (sortWorldK enc sz w b 0 n dr os).heap[b]? = some (.cells (putCells id 0 (flatK enc sz dr) cur) e (0, 0)) := by
     rw [hheap, Array.getElem?_append_left (by simpa using hblt), Array.getElem?_modify, if_pos rfl, m1]; rfl
    have k3 : (putCells id 0 (flatK enc sz dr) cur).toList.take (ds.length * sz) = (sortIx ds.length cf).flatMap enc := by
     rw [← hFl]
     refine List.ext_getElem? fun j => ?_
     rw [List.getElem?_take]
     by_cases hj : j < ds.length * sz
     ·rw [if_pos hj, Array.getElem?_toList, putCells, Array.getElem?_mapIdx, Array.getElem?_eq_getElem (by omega), Option.map_some, if_pos ⟨Nat.zero_le _, by rw [hFs]; omega⟩]
      rw [Array.getElem?_toList, Array.getElem?_eq_getElem (by omega : j < (flatK enc sz dr).size)]
      simp [getElem!_pos, hFs, hj]
     ·rw [if_neg hj, List.getElem?_eq_none (by rw [Array.length_toList, hFs]; omega)]
    refine ⟨_, σ, Z, rfl, ⟨⟨[], rfl, trivial⟩, fun n o hn => ?_, fun n k q hn hk => pre.inj n k q (hliv n hn) (hliv k hk), fun _ _ _ _ => rfl, fun n q _ hl _ hq => ?_, fun n q hn hq => ⟨pre.blk n q (hliv n hn) hq, .inr ⟨n, hliv n hn, hq⟩⟩, fun q hq => Nat.lt_of_lt_of_le (pre.zlt q hq) (hsize _ _ _), fun _ h => h, fun _ h => .inl h, rfl, rfl, rfl, hsize _ _ _, fun q hq hno => ?_⟩⟩
    ·rcases hRO n o hn with ⟨rfl, rfl⟩ | ⟨_, hl⟩
     ·refine ⟨hsz0, fun y hy => ?_, .slice (some ⟨b, 0, none⟩) ((sortIx ds.length cf).map fun i => ds[i]).length cap, (sortIx ds.length cf).flatMap enc, ⟨?_, .inr ⟨b, cap, _, rfl, Nat.zero_le _, k1, ?_, by simpa [maxLen] using m4, ?_, ?_⟩⟩, ?_, ?_, fun h => ?_⟩
      ·obtain ⟨i, _, rfl⟩ := List.mem_map.1 hy; exact hob.2.1 _ (List.getElem_mem _)
      ·rw [flatMap_len e2, List.length_map]
      ·rw [List.length_map, hlen]; exact m3
      ·rw [show (putCells id 0 (flatK enc sz dr) cur).size = cur.size by simp [putCells]]; exact m2
      ·rw [List.length_map, hlen]; exact k3
      ·exact D.repL_ext (hext _ _ _) _ _ (repL_flat e1 _)
      ·exact hb.symm
      ·rw [hb] at h; cases h
     ·exact hbox n o hl _ _ _ σ fun q hq => hsame _ _ _ q (hbsz n o hl q hq) (hbne n o hl q hq b hb)
    ·rcases hBL n hl with rfl | ⟨o, hl⟩
     ·have : q = b := Option.some.inj (hq.symm.trans hb)
      subst this
      simp only [World.shape?, m1, k1]
      simp [putCells]
     ·simp only [World.shape?]
      rw [hsame _ _ _ q (hbsz n o hl q hq) (hbne n o hl q hq b hb)]
    ·exact hsame _ _ _ q hq fun e => hno ⟨nm, hlv, e ▸ hb⟩
theorem AC.sortFO {α : Type} {nm : Nat} {cob : List (Nat × Ob)} {f g : FuncId} {e : TypeId} {sz : Nat} {caps : List V} (fe : α → D) (cmp : α → α → Option Int) (xs r : List α) (h : Vc.sortF xs cmp = some r) (hS : SortOk P f sz) (hg : FnOk P g) (hag : ∀ x, (fe x).isAgg = true)
  (hmc : ∀ p ∈ cob, p.1 ≠ nm ∧ p.1 < 1000) (hcb : ∀ p ∈ cob, ∃ t x, p.2 = .box t x ∧ V.rigid x = true) (hcp : V.noobCL (keys cob) caps = true)
  (hca : caps.all (fun x => !x.isAgg) = true) (hc : ∀ x y c, cmp x y = some c → AC P g ([.d (fe x), .d (fe y)] ++ caps) cob (.d (.int .i64 c)) (someO cob)) :
  AC P f [.sref nm sz 0 xs.length, .func g caps] ((nm, .row e sz (xs.map fe)) :: cob) (.tup []) ((nm, some (.row e sz (r.map fe))) :: someO cob) := by
 unfold Vc.sortF at h
 split at h
 ·rename_i hh
  cases h
  obtain ⟨h1, h2, h3⟩ := hh.choose_spec
  generalize hh.choose = cf at h1 h2 h3 ⊢
  have hl : (xs.map fe).length = xs.length := List.length_map _
  have hO : SWO (ltOf fun i j : _root_.Fin (xs.map fe).length => cf (i.cast hl) (j.cast hl)) := ⟨fun x => h2.irrefl _, fun x y z => h2.trans _ _ _, fun x y z => h2.ntrans _ _ _⟩
  have key := AC.sortFnO (P := P) (f := f) (g := g) (e := e) (sz := sz) (nm := nm) (ds := xs.map fe) (caps := caps) (fun i j => cf (i.cast hl) (j.cast hl)) hS hg (fun x hx => by
   obtain ⟨y, _, rfl⟩ := List.mem_map.1 hx; exact hag y) hmc hcb hcp hca hO (by rw [hl]; exact h3) (fun i j => by
   have := hc _ _ _ (h1 (i.cast hl) (j.cast hl))
   simpa using this)
  rw [sortIx_cast hl cf]
  rw [List.map_map, List.map_map]
  have e1 : (fun i : _root_.Fin (xs.map fe).length => (xs.map fe)[i]) = (fe ∘ (fun i => xs[i]) ∘ _root_.Fin.cast hl) := by
   funext i
   simp
  rw [e1] at key
  have e2 : (.sref nm sz 0 (xs.map fe).length : V) = .sref nm sz 0 xs.length := by rw [hl]
  rw [e2] at key
  exact key
 ·cases h
def okCob (nm : Nat) (cob : List (Nat × Ob)) : Bool := cob.all fun p => !Nat.beq p.1 nm && Nat.blt p.1 1000 && (match p.2 with | .box _ x => x.rigid | _ => false)
theorem AC.swapO {f : FuncId} {args : List V} {res : V} {p q : Nat × Ob} {cob : List (Nat × Ob)} {q' : Option Ob} (hne : ∀ x ∈ cob, x.1 ≠ q.1) (h : AC P f args (q :: cob) res ((q.1, q') :: someO cob)) : AC P f args (cob ++ [q]) res (someO cob ++ [(q.1, q')]) := by
 have e1 : obOf (cob ++ [q]) = obOf (q :: cob) := by
  funext n
  unfold obOf
  congr 1
  clear h
  induction cob with
  | nil => rfl
  | cons x l ih =>
   obtain ⟨m, o⟩ := x
   obtain ⟨k, o2⟩ := q
   have hx : m ≠ k := hne (m, o) List.mem_cons_self
   have ih := ih (fun y hy => hne y (List.mem_cons_of_mem _ hy))
   rw [List.cons_append, look_cons, ih, look_cons, look_cons, look_cons]
   by_cases e : m = n
   ·rw [if_pos e, if_neg (fun c => hx (e.trans c.symm)), if_pos e]
   ·rw [if_neg e]
    by_cases e2 : k = n
    ·rw [if_pos e2, if_pos e2]
    ·rw [if_neg e2, if_neg e2, if_neg e]
 have e2 : (look (someO cob ++ [(q.1, q')]) : Obs) = look ((q.1, q') :: someO cob) := by
  funext n
  clear h e1
  induction cob with
  | nil => rfl
  | cons x l ih =>
   obtain ⟨m, o⟩ := x
   obtain ⟨k, o2⟩ := q
   have hx : m ≠ k := hne (m, o) List.mem_cons_self
   have ih := ih (fun y hy => hne y (List.mem_cons_of_mem _ hy))
   show look ((m, some o) :: (someO l ++ [(k, q')])) n = look ((k, q') :: (m, some o) :: someO l) n
   rw [look_cons, ih, look_cons, look_cons, look_cons]
   by_cases e : m = n
   ·rw [if_pos e, if_neg (fun c => hx (e.trans c.symm)), if_pos e]
   ·rw [if_neg e]
    by_cases e2 : k = n
    ·rw [if_pos e2, if_pos e2]
    ·rw [if_neg e2, if_neg e2, if_neg e]
 intro w σ Z cargs pre
 rw [e1] at pre ⊢
 refine (h w σ Z cargs pre).mono fun e w' ⟨cv, σ', Z', he, hp⟩ => ⟨cv, σ', Z', he, ?_⟩
 obtain ⟨p1, p2, p3, p4, p5, p6, p7, p8, p9, p10, p11, p12, p13, p14⟩ := hp
 exact ⟨by rw [e2]; exact p1, by rw [e2]; exact p2, by rw [e2]; exact p3, by rw [e2]; exact p4, by rw [e2]; exact p5, by rw [e2]; exact p6, p7, p8, p9, p10, p11, p12, p13, p14⟩
theorem AC.sortFC {α : Type} {nm : Nat} {cob : List (Nat × Ob)} {f g : FuncId} {e : TypeId} {sz : Nat} {caps : List V} (fe : α → D) (cmp : α → α → Option Int) (xs r : List α) (h : Vc.sortF xs cmp = some r) (hS : SortOk P f sz) (hg : FnOk P g) (hag : ∀ x, (fe x).isAgg = true)
  (hok : okCob nm cob = true) (hcp : V.noobCL (keys cob) caps = true)
  (hca : caps.all (fun x => !x.isAgg) = true) (hc : ∀ x y c, cmp x y = some c → AC P g ([.d (fe x), .d (fe y)] ++ caps) cob (.d (.int .i64 c)) (someO cob)) :
  AC P f [.sref nm sz 0 xs.length, .func g caps] (cob ++ [(nm, .row e sz (xs.map fe))]) (.tup []) (someO cob ++ [(nm, some (.row e sz (r.map fe)))]) := by
 have hall : ∀ p ∈ cob, (p.1 ≠ nm ∧ p.1 < 1000) ∧ ∃ t x, p.2 = .box t x ∧ V.rigid x = true := fun p hp => by
  have := List.all_eq_true.1 hok p hp
  simp only [Bool.and_eq_true, Bool.not_eq_true'] at this
  obtain ⟨⟨h1, h2⟩, h3⟩ := this
  refine ⟨⟨fun e => ?_, by simpa using h2⟩, ?_⟩
  ·rw [e] at h1
   simp at h1
  ·revert h3
   cases p.2 with
   | box t x => intro h3; exact ⟨t, x, rfl, h3⟩
   | _ => intro h3; cases h3
 exact AC.swapO (p := (0, .blk default)) (q := (nm, .row e sz (xs.map fe))) (fun x hx => (hall x hx).1.1) (AC.sortFO fe cmp xs r h hS hg hag (fun p hp => (hall p hp).1) (fun p hp => (hall p hp).2) hcp hca hc)
end Go.Vc
