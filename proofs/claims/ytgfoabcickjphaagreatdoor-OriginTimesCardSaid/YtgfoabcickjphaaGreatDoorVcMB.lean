/- Maps: the operations. -/
import Derived.Test.YtgfoabcickjphaaGreatDoorVcMA
namespace Go.Vc
open Go
variable {P : Program} {B : Base} {ops : Array Oper}
def setBlk (w : World) (b : Nat) (o : Obj) : World := { w with heap := w.heap.setIfInBounds b o }
theorem Sim.setBlk {env : Env} {ob : Obs} {a : Act} {w : World} {σ : Nat → Option Nat} {Z : Nat → Prop} (s : Sim B env ob a w σ Z) {n b : Nat} {o o' : Ob} {c : Obj} (hn : ob n = some (some o)) (hb : σ n = some b) (hlt : b < w.heap.size) (hsh : (Vc.setBlk w b c).shape? b = w.shape? b)
  (ho : ∀ ob', Move ob ob' σ σ Z Z w (Vc.setBlk w b c) → o'.rep ob' σ Z (Vc.setBlk w b c) n) :
  Sim B env (updO ob n (some o')) a (Vc.setBlk w b c) σ Z := by
 have hl : live ob n := ⟨o, hn⟩
 have hold : ∀ k, k ≠ b → (Vc.setBlk w b c).heap[k]? = w.heap[k]? := fun k hk => by
  unfold Vc.setBlk; simp [Ne.symm hk]
 have hsize : (Vc.setBlk w b c).heap.size = w.heap.size := by unfold Vc.setBlk; simp
 have m : Move ob (updO ob n (some o')) σ σ Z Z w (Vc.setBlk w b c) := by
  refine ⟨⟨fun _ h => h, fun k h => hold k (fun hk => (s.blk n b hl hb).1 (hk ▸ h))⟩, fun m h => used_upd h, fun m hu hm => ⟨?_, rfl⟩, fun m k hu hm hk => ?_⟩
  ·rw [live_upd] at hm
   by_cases h : m = n
   ·rw [h]; exact hl
   ·rwa [if_neg h] at hm
  ·by_cases h : k = b
   ·subst h; exact hsh
   ·simp only [World.shape?, hold k h]
 refine { s with env := ?_, obj := ?_, inj := ?_, blk := ?_, zlt := ?_, pin := ?_, shp := ?_, size := ?_, block := ?_, os := s.os, tape := s.tape, output := s.output }
 ·intro k x hk
  obtain ⟨v, h1, h2⟩ := s.env k x hk
  exact ⟨v, h1, h2.move m⟩
 ·intro q o'' hq
  by_cases h : q = n
  ·subst h
   simp only [updO, if_true, Option.some.injEq] at hq
   subst hq
   exact ho _ m
  ·simp only [updO, if_neg h] at hq
   exact Ob.rep_move m (s.obj q o'' hq) rfl (fun k hk => hold k (fun e => h (s.inj q n b ⟨_, hq⟩ hl (e ▸ hk) hb)))
 ·intro p q k hp hq
  rw [live_upd] at hp hq
  refine s.inj p q k ?_ ?_
  ·by_cases h : p = n
   ·rw [h]; exact hl
   ·rwa [if_neg h] at hp
  ·by_cases h : q = n
   ·rw [h]; exact hl
   ·rwa [if_neg h] at hq
 ·intro p k hp
  rw [live_upd] at hp
  refine s.blk p k ?_
  by_cases h : p = n
  ·rw [h]; exact hl
  ·rwa [if_neg h] at hp
 ·intro k hz; have := s.zlt k hz; rw [hsize]; exact this
 ·intro p k hpin hp
  rw [live_upd] at hp
  refine s.pin p k hpin ?_
  by_cases h : p = n
  ·rw [h]; exact hl
  ·rwa [if_neg h] at hp
 ·intro p k hpin hp
  rw [live_upd] at hp
  have hlp : live ob p := by
   by_cases h : p = n
   ·rw [h]; exact hl
   ·rwa [if_neg h] at hp
  rw [← s.shp p k hpin hlp]
  by_cases h : k = b
  ·subst h; exact hsh
  ·simp only [World.shape?, hold k h]
 ·rw [hsize]; exact s.size
 ·intro k hk hk'
  have hne : k ≠ b := fun e => by
   subst e
   rcases (s.blk n k hl hb).2 with h | h
   ·omega
   ·exact hk' h
  rw [hold k hne]
  exact s.block k hk hk'
theorem rep_mref {ob : Obs} {σ : Nat → Option Nat} {Z : Nat → Prop} {w : World} {v : Value} {n : Nat} (h : RepT ob σ Z w v (.mref n)) (hl : live ob n) : ∃ b, σ n = some b ∧ v = .map (some b) := by
 obtain ⟨b, hb, hv⟩ := (And.left h).2 hl
 exact ⟨b, hb, by simpa using hv⟩
theorem mk_mref {ob : Obs} {σ : Nat → Option Nat} {Z : Nat → Prop} {w : World} {n b : Nat} (hl : live ob n) (hb : σ n = some b) : RepT ob σ Z w (.map (some b)) (.mref n) :=
 ⟨⟨hl.used, fun _ => ⟨b, hb, rfl⟩⟩, .inr rfl⟩
section
variable {d : Nat} {x y i : Operand} {ty : TypeId} {pos : String} {af : Array Edge} {nt nt' nt'' : List (Nat × V)}
theorem OpJ.mkmap {t : TypeId} (hB : B.ok) {nm : Nat} (hnm : 1000 ≤ nm) (hN : d < B.N) :
  OpJ P B ops ⟨some d, .makeMap t none, ty, pos, af, none⟩ { nf := [nm], wt := [(d, .mref nm)], wo := [(nm, some (.blk (mapB [])))] } :=
 OpJ.run rfl rfl hN rfl fun env ob a w σ Z sm hne => by
  have hn : ob nm = none := hne.2.2 nm (by simp)
  have s' := sm.newObj hB hn hnm (o := .blk (mapB [])) (c := .map #[] 0) fun ob' σ' m hs => ⟨w.heap.size, hs, #[], 0, heap_alloc_new w _, trivial, ⟨by simp, by simp⟩⟩
  refine ⟨.map (some w.heap.size), _, _, _, ?_, by rw [eff_obs1 _ rfl]; exact s', by rw [eff_obs1 _ rfl]; exact mk_mref (by rw [live_upd]; simp) (by simp [updS])⟩
  have hr : (Instr.makeMap t none).run P w = .ok (.map (some w.heap.size)) (w.alloc (.map #[] 0)) := rfl
  simp [execOp, hr]
section
variable {α β : Type} {f : α → D} {g : β → D} {eq : α → α → Bool} {kt et t : TypeId} {kd : TypeDesc} {nm : Nat} {l : List (α × β)} {k : α}
theorem look_run {env : Env} {ob : Obs} {a : Act} {w : World} {σ : Nat → Option Nat} {Z : Nat → Prop} (hu : P.underlying t = some (.map kt et)) (hk : P.underlying kt = some kd) (he : KeyEq P kt f eq) {z : β} (hz : TyZ P et (.d (g z))) (sm : Sim B env ob a w σ Z) (hob : ob nm = some (some (.blk (mapB (mpairs f g l))))) {kv mv : Value} (hm : RepT ob σ Z w mv (.mref nm)) (hkv : RepT ob σ Z w kv (.d (f k))) (ok : Bool) :
  ∃ v, DV Z w (g ((mget eq l k).getD z)) v ∧ (Instr.lookup t mv kv ok).run P w = .ok (if ok then .tuple #[v, .bool (mget eq l k).isSome] else v) w := by
 obtain ⟨b, hb, rfl⟩ := rep_mref hm ⟨_, hob⟩
 obtain ⟨b', hb', ents, clock, hw, hl, hst⟩ := sm.obj nm _ hob
 have : b' = b := Option.some.inj (hb'.symm.trans hb)
 subst this
 obtain ⟨cs, rfl, hr⟩ := rep_valOf hkv
 obtain ⟨hh, hle, hfit⟩ := he.fit
 have hc := (hfit k k).check (w := w) ents.isEmpty (d := 10000) hle hr
 obtain ⟨r, h1, h2⟩ := find_run (w := w) hk he ⟨cs, rfl, hr⟩ hl
 have hg : (getObj b').run P w = .ok (.map ents clock) w := by simp [getObj, Sem.run, hw]
 have hzr := hz.run w
 unfold mget
 cases hq : mix eq k l with
 | none =>
  rw [hq] at h2
  subst h2
  refine ⟨valOf (V.d (g z)).isAgg (V.d (g z)).enc, ⟨_, rfl, ?_⟩, ?_⟩
  ·exact (V.rep_enc (ob := ob) (σ := σ) (Z := Z) (w := w) (.d (g z)) hz.plain).1
  ·cases ok <;> simp [Instr.lookup, run_underlying hu, hg, hc, h1, hzr]
 | some q =>
  rw [hq] at h2
  obtain ⟨v, rfl, h3⟩ := h2
  refine ⟨v, h3, ?_⟩
  cases ok <;> simp [Instr.lookup, run_underlying hu, hg, hc, h1]
theorem OpJ.mlook (hu : P.underlying t = some (.map kt et)) (hk : P.underlying kt = some kd) (he : KeyEq P kt f eq) {z : β} (hz : TyZ P et (.d (g z))) (hN : d < B.N) (hx : Opd x (.mref nm) nt) (hi : Opd i (.d (f k)) nt') :
  OpJ P B ops ⟨some d, .lookup t x i false, ty, pos, af, none⟩ { nt := nt ++ nt', no := [(nm, .blk (mapB (mpairs f g l)))], wt := [(d, .d (g ((mget eq l k).getD z)))] } :=
 OpJ.run rfl rfl hN rfl fun env ob a w σ Z sm hne => by
  obtain ⟨h1, h2⟩ := needs_app hne.1
  have hob := hne.2.1 (nm, .blk (mapB (mpairs f g l))) (by simp)
  obtain ⟨v, hv, hr⟩ := look_run hu hk he hz sm hob (hx B env ob a w σ Z sm h1) (hi B env ob a w σ Z sm h2) false
  refine ⟨_, w, σ, Z, by simp only [execOp, Sem.run_bind, hr, Result.andThen_ok, Sem.run_pure]; rfl, by rw [eff_obs0 _ rfl]; exact sm, ?_⟩
  rw [eff_obs0 _ rfl]
  exact DV.to hv
theorem mapL_set {Z : Nat → Prop} {w : World} {v : β} {kv vv : Value} (hv : DV Z w (g v) vv) (hkv : DV Z w (f k) kv) (hsame : ∀ a b, eq a b = true → f a = f b) : ∀ {l : List (α × β)} {es : List MapEntry} {j : Nat} {b : β}, MapL Z w (mpairs f g l) es → mix eq k l = some (j, b) →
  MapL Z w (mpairs f g (mput eq l k v)) (es.modify j fun e => { e with key := kv, val := vv })
 | [], es, j, b, _, h => by simp [mix] at h
 | p :: l, e :: es, j, b, hl, h => by
  obtain ⟨⟨h1, h2⟩, h3⟩ := hl
  unfold mix at h
  unfold mput
  by_cases hc : eq k p.1 = true
  ·rw [if_pos hc] at h ⊢
   simp only [Option.some.injEq, Prod.mk.injEq] at h
   rw [← h.1, List.modify_zero_cons]
   have hkk : DV Z w (f p.1) kv := by rw [← hsame _ _ hc]; exact hkv
   exact ⟨⟨hkk, hv⟩, h3⟩
  ·rw [if_neg hc] at h ⊢
   cases hq : mix eq k l with
   | none => rw [hq] at h; simp at h
   | some q =>
    rw [hq] at h
    simp only [Option.map_some, Option.some.injEq, Prod.mk.injEq] at h
    rw [← h.1, List.modify_succ_cons]
    exact ⟨⟨h1, h2⟩, mapL_set hv hkv hsame h3 hq⟩
 | p :: l, [], _, _, h, _ => h.elim
theorem mapL_new {Z : Nat → Prop} {w : World} {v : β} {kv vv : Value} (hv : DV Z w (g v) vv) (hkv : DV Z w (f k) kv) {clock : Nat} : ∀ {l : List (α × β)} {es : List MapEntry}, MapL Z w (mpairs f g l) es → mix eq k l = none →
  MapL Z w (mpairs f g (mput eq l k v)) (es ++ [{ key := kv, val := vv, born := clock }])
 | [], [], _, _ => ⟨⟨hkv, hv⟩, trivial⟩
 | p :: l, e :: es, hl, h => by
  obtain ⟨⟨h1, h2⟩, h3⟩ := hl
  unfold mix at h
  unfold mput
  by_cases hc : eq k p.1 = true
  ·rw [if_pos hc] at h; cases h
  ·rw [if_neg hc] at h ⊢
   refine ⟨⟨h1, h2⟩, mapL_new hv hkv h3 ?_⟩
   cases hq : mix eq k l with
   | none => rfl
   | some q => rw [hq] at h; simp at h
 | [], _ :: _, h, _ => h.elim
 | _ :: _, [], h, _ => h.elim
-- keys of one datum are the same cells
def plainV : Value → Bool
 | .bool _ | .int .. | .string _ => true
 | _ => false
mutual
theorem FitE.only {Z Z' : Nat → Prop} {w w' : World} : ∀ {h : Nat} {t : TypeId} {x y : D} {b : Bool}, FitE P h t x y b → ∀ {c1 c2 : List Value}, D.rep Z w x c1 → D.rep Z' w' x c2 → c1 = c2 ∧ ∀ v ∈ c1, plainV v = true
 | _, _, _, _, _, .bool a b hu, c1, c2, h1, h2 => by cases h1; cases h2; simp [plainV]
 | _, _, _, _, _, .int a b hu, c1, c2, h1, h2 => by cases h1; cases h2; simp [plainV]
 | _, _, _, _, _, .str a b hu, c1, c2, h1, h2 => by cases h1; cases h2; simp [plainV]
 | _, _, _, _, _, .st hu hl hs hf, c1, c2, h1, h2 => FitF.only hf h1 h2
theorem FitF.only {Z Z' : Nat → Prop} {w w' : World} : ∀ {h o : Nat} {fs : List Field} {xs ys : List D} {b : Bool}, FitF P h o fs xs ys b → ∀ {c1 c2 : List Value}, D.repL Z w xs c1 → D.repL Z' w' xs c2 → c1 = c2 ∧ ∀ v ∈ c1, plainV v = true
 | _, _, _, _, _, _, .nil, c1, c2, h1, h2 => by cases h1; cases h2; simp
 | _, _, _, _, _, _, .cons hn ho ht hx hy he hf, c1, c2, h1, h2 => by
  obtain ⟨a1, a2, rfl, g1, g2⟩ := h1
  obtain ⟨b1, b2, rfl, k1, k2⟩ := h2
  obtain ⟨e1, p1⟩ := FitE.only he g1 k1
  obtain ⟨e2, p2⟩ := FitF.only hf g2 k2
  subst e1; subst e2
  refine ⟨rfl, fun v hv => ?_⟩
  rcases List.mem_append.1 hv with hv | hv
  ·exact p1 v hv
  ·exact p2 v hv
end
theorem sameBits_plain {v : Value} (h : plainV v = true) (n : Nat) : Instr.sameBits n v v = true := by
 cases v with
 | string s => unfold Instr.sameBits; show (s.data == s.data) = true; simp
 | _ => simp_all [plainV, Instr.sameBits]
theorem zip_self {α : Type} (p : α × α → Bool) : ∀ {l : List α}, (∀ x ∈ l, p (x, x) = true) → (l.zip l).all p = true
 | [], _ => rfl
 | x :: l, h => by simp [List.zip_cons_cons, h x (List.mem_cons_self ..), zip_self p (l := l) fun y hy => h y (List.mem_cons_of_mem _ hy)]
theorem stays {x y : D} {b : Bool} {h : Nat} {t : TypeId} (hf : FitE P h t x y b) {Z Z' : Nat → Prop} {w w1 w2 : World} {v1 v2 : Value} (h1 : DV Z w1 x v1) (h2 : DV Z' w2 x v2) : (Instr.keyThatStays v1 v2).run P w = .ok v2 w := by
 obtain ⟨c1, rfl, r1⟩ := h1
 obtain ⟨c2, rfl, r2⟩ := h2
 obtain ⟨rfl, hp⟩ := hf.only r1 r2
 have hs : Instr.sameBits 10000 (valOf x.isAgg c1) (valOf x.isAgg c1) = true := by
  cases hx : x.isAgg with
  | true =>
   simp only [valOf, if_true]
   rw [show (10000 : Nat) = 9999 + 1 from rfl]
   unfold Instr.sameBits
   simp only [beq_self_eq_true, Bool.true_and]
   exact zip_self _ fun v hv => sameBits_plain (hp v hv) _
  | false =>
   have hl := D.rep_len x c1 r1
   rw [D.sz_one hx] at hl
   match c1, hl with
   | [c], _ =>
    simp only [valOf, Bool.false_eq_true, if_false, List.headD]
    exact sameBits_plain (hp c (List.mem_cons_self ..)) _
 simp [Instr.keyThatStays, hs]
theorem mix_get {Z : Nat → Prop} {w : World} (hsame : ∀ a b, eq a b = true → f a = f b) : ∀ {l : List (α × β)} {es : List MapEntry} {j : Nat} {b : β}, MapL Z w (mpairs f g l) es → mix eq k l = some (j, b) → ∃ e, es[j]? = some e ∧ DV Z w (f k) e.key
 | [], es, j, b, _, h => by simp [mix] at h
 | p :: l, e :: es, j, b, hl, h => by
  obtain ⟨⟨h1, h2⟩, h3⟩ := hl
  unfold mix at h
  by_cases hc : eq k p.1 = true
  ·rw [if_pos hc] at h
   simp only [Option.some.injEq, Prod.mk.injEq] at h
   rw [← h.1]
   exact ⟨e, rfl, by rw [hsame _ _ hc]; exact h1⟩
  ·rw [if_neg hc] at h
   cases hq : mix eq k l with
   | none => rw [hq] at h; simp at h
   | some q =>
    rw [hq] at h
    simp only [Option.map_some, Option.some.injEq, Prod.mk.injEq] at h
    obtain ⟨e', h4, h5⟩ := mix_get hsame h3 hq
    rw [← h.1]
    exact ⟨e', by simpa using h4, h5⟩
 | p :: l, [], _, _, h, _ => h.elim
theorem modify_born (kv vv : Value) : ∀ (es : List MapEntry) (j : Nat), (es.modify j fun e => { e with key := kv, val := vv }).map (·.born) = es.map (·.born)
 | [], j => by simp
 | e :: es, 0 => by simp
 | e :: es, j + 1 => by simp [List.modify_succ_cons, modify_born kv vv es j]
theorem Stamps.modify {es : List MapEntry} {clock : Nat} (h : Stamps es clock) (kv vv : Value) (j : Nat) : Stamps (es.modify j fun e => { e with key := kv, val := vv }) clock := by
 have hb := modify_born kv vv es j
 refine ⟨by rw [hb]; exact h.apart, fun e he => ?_⟩
 have : e.born ∈ es.map (·.born) := by rw [← hb]; exact List.mem_map_of_mem (f := fun e : MapEntry => e.born) he
 obtain ⟨e', he', h2⟩ := List.mem_map.1 this
 rw [← h2]; exact h.below e' he'
theorem Stamps.push {es : List MapEntry} {clock : Nat} (h : Stamps es clock) (kv vv : Value) : Stamps (es ++ [{ key := kv, val := vv, born := clock }]) (clock + 1) := by
 refine ⟨?_, fun e he => ?_⟩
 ·rw [List.map_append, List.nodup_append]
  refine ⟨h.apart, by simp, fun a ha b hb e => ?_⟩
  obtain ⟨e', he', h2⟩ := List.mem_map.1 ha
  simp only [List.map_cons, List.map_nil, List.mem_singleton] at hb
  have := h.below e' he'
  omega
 ·rcases List.mem_append.1 he with he | he
  ·have := h.below e he; omega
  ·rw [List.mem_singleton.1 he]; exact Nat.lt_succ_self _
theorem OpJ.mput (hu : P.underlying t = some (.map kt et)) (hk : P.underlying kt = some kd) (he : KeyEq P kt f eq) {v : β} (hx : Opd x (.mref nm) nt) (hi : Opd i (.d (f k)) nt') (hy : Opd y (.d (g v)) nt'') :
  OpJ P B ops ⟨none, .mapUpdate t x i y, ty, pos, af, none⟩ { nt := nt ++ (nt' ++ nt''), no := [(nm, .blk (mapB (mpairs f g l)))], wo := [(nm, some (.blk (mapB (mpairs f g (Vc.mput eq l k v)))))] } :=
 OpJ.run0 rfl rfl rfl fun env ob a w σ Z sm hne => by
  obtain ⟨h1, h2⟩ := needs_app hne.1
  obtain ⟨h2, h3⟩ := needs_app h2
  have hob := hne.2.1 (nm, .blk (mapB (mpairs f g l))) (by simp)
  obtain ⟨b, hb, hv⟩ := rep_mref (hx B env ob a w σ Z sm h1) ⟨_, hob⟩
  obtain ⟨b', hb', ents, clock, hw, hl, hst⟩ := sm.obj nm _ hob
  have : b' = b := Option.some.inj (hb'.symm.trans hb)
  subst this
  have hkv := rep_valOf (hi B env ob a w σ Z sm h2)
  have hyv := rep_valOf (hy B env ob a w σ Z sm h3)
  have hkd : DV Z w (f k) (a.eval i) := hkv
  have hyd : DV Z w (g v) (a.eval y) := hyv
  obtain ⟨hh, hle, hfit⟩ := he.fit
  obtain ⟨cs, hcs, hr⟩ := hkv
  have hc := (hfit k k).check (w := w) false (d := 10000) hle hr
  rw [← hcs] at hc
  obtain ⟨r, g1, g2⟩ := find_run (w := w) hk he hkd hl
  have hg : (getObj b').run P w = .ok (.map ents clock) w := by simp [getObj, Sem.run, hw]
  have hset : ∀ o, (setObj b' o).run P w = .ok () (Vc.setBlk w b' o) := fun o => by simp [setObj, Sem.run, hw, Vc.setBlk]
  have hlt : b' < w.heap.size := (Array.getElem?_eq_some_iff.1 hw).1
  have hself : ∀ o, (Vc.setBlk w b' o).heap[b']? = some o := fun o => by unfold Vc.setBlk; simp [hlt]
  cases hq : mix eq k l with
  | none =>
   rw [hq] at g2
   subst g2
   refine ⟨Vc.setBlk w b' (.map (ents.push { key := a.eval i, val := a.eval y, born := clock }) (clock + 1)), σ, Z, .inl ?_, ?_⟩
   ·simp [execOp, hv, Instr.mapUpdate, run_underlying hu, hg, hc, g1, hset]
   ·rw [eff_obs1 _ rfl]
    refine sm.setBlk hob hb hlt (by simp [World.shape?, hself, hw]) fun ob' m => ⟨b', hb, _, _, hself _, ?_, ?_⟩
    ·rw [Array.toList_push]
     exact mapL_new (hyd.ext m.ext) (hkd.ext m.ext) (hl.ext m.ext) hq
    ·rw [Array.toList_push]
     exact hst.push _ _
  | some q =>
   obtain ⟨j, bb⟩ := q
   rw [hq] at g2
   obtain ⟨vv, rfl, _⟩ := g2
   obtain ⟨e, he1, he2⟩ := mix_get he.same hl hq
   have hj : ents[j]? = some e := by simpa using he1
   have hs := stays (w := w) (hfit k k) he2 hkd
   refine ⟨Vc.setBlk w b' (.map (ents.modify j fun e => { e with key := a.eval i, val := a.eval y }) clock), σ, Z, .inl ?_, ?_⟩
   ·simp [execOp, hv, Instr.mapUpdate, run_underlying hu, hg, hc, g1, hset, hj, hs]
   ·rw [eff_obs1 _ rfl]
    refine sm.setBlk hob hb hlt (by simp [World.shape?, hself, hw]) fun ob' m => ⟨b', hb, _, _, hself _, ?_, ?_⟩
    ·rw [Array.toList_modify]
     exact mapL_set (hyd.ext m.ext) (hkd.ext m.ext) he.same (hl.ext m.ext) hq
    ·rw [Array.toList_modify]
     exact hst.modify _ _ _
theorem OpJ.mlen {ps : List (D × D)} (hu : P.underlying t = some (.map kt et)) (hN : d < B.N) (hx : Opd x (.mref nm) nt) :
  OpJ P B ops ⟨some d, .call { callee := .builtin .len, args := #[x], argTypes := #[t] }, ty, pos, af, none⟩ { nt, no := [(nm, .blk (mapB ps))], wt := [(d, .d (.int .i64 (ps.length : Int)))] } :=
 OpJ.run rfl rfl hN rfl fun env ob a w σ Z sm hne => by
  have hob := hne.2.1 (nm, .blk (mapB ps)) (by simp)
  obtain ⟨b, hb, hv⟩ := rep_mref (hx B env ob a w σ Z sm hne.1) ⟨_, hob⟩
  obtain ⟨b', hb', ents, clock, hw, hl, hst⟩ := sm.obj nm _ hob
  have : b' = b := Option.some.inj (hb'.symm.trans hb)
  subst this
  have hg : (getObj b').run P w = .ok (.map ents clock) w := by simp [getObj, Sem.run, hw]
  have hlen : ents.size = ps.length := by have := hl.len; simpa using this
  refine ⟨.int .i64 (ps.length : Int), w, σ, Z, ?_, by rw [eff_obs0 _ rfl]; exact sm, mk_int _ _⟩
  simp [execOp, resolve, invoke, builtin, hv, Builtin.len_, run_underlying hu, hg, hlen, goInt]
end
end
end Go.Vc
