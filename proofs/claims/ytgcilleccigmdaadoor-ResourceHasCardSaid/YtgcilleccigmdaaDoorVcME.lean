/- Maps: taking out an entry; a copy of a map. -/
import Derived.Test.YtgcilleccigmdaaDoorVcMD
namespace Go.Vc
open Go
variable {P : Program} {B : Base} {ops : Array Oper}

def mdel {α β : Type} (eq : α → α → Bool) : List (α × β) → α → List (α × β)
  | [], _ => []
  | p :: l, k => if eq k p.1 = true then l else p :: mdel eq l k

section
variable {α β : Type} {f : α → D} {g : β → D} {eq : α → α → Bool} {k : α}
theorem mapL_del {Z : Nat → Prop} {w : World} : ∀ {l : List (α × β)} {es : List MapEntry} {j : Nat} {b : β}, MapL Z w (mpairs f g l) es → mix eq k l = some (j, b) → MapL Z w (mpairs f g (mdel eq l k)) (es.eraseIdx j)
  | [], es, j, b, _, h => by simp [mix] at h
  | p :: l, e :: es, j, b, hl, h => by
    obtain ⟨⟨h1, h2⟩, h3⟩ := hl
    unfold mix at h
    unfold mdel
    by_cases hc : eq k p.1 = true
    · rw [if_pos hc] at h ⊢
      simp only [Option.some.injEq, Prod.mk.injEq] at h
      rw [← h.1]
      exact h3
    · rw [if_neg hc] at h ⊢
      cases hq : mix eq k l with
      | none => rw [hq] at h; simp at h
      | some q =>
        rw [hq] at h
        simp only [Option.map_some, Option.some.injEq, Prod.mk.injEq] at h
        rw [← h.1]
        exact ⟨⟨h1, h2⟩, mapL_del h3 hq⟩
  | p :: l, [], _, _, h, _ => h.elim
theorem mdel_none : ∀ {l : List (α × β)}, mix eq k l = none → mdel eq l k = l
  | [], _ => rfl
  | p :: l, h => by
    unfold mix at h
    unfold mdel
    by_cases hc : eq k p.1 = true
    · rw [if_pos hc] at h; cases h
    · rw [if_neg hc] at h ⊢
      rw [mdel_none]
      cases hq : mix eq k l with
      | none => rfl
      | some q => rw [hq] at h; simp at h
end
theorem Stamps.erase {es : List MapEntry} {clock : Nat} (h : Stamps es clock) (j : Nat) : Stamps (es.eraseIdx j) clock := by
  have hs := List.eraseIdx_sublist es j
  refine ⟨?_, fun e he => h.below e (hs.subset he)⟩
  exact h.apart.sublist (hs.map _)

section
variable {d : Nat} {x y i : Operand} {ty : TypeId} {pos : String} {af : Array Edge} {nt nt' nt'' : List (Nat × V)}
variable {α β : Type} {f : α → D} {g : β → D} {eq : α → α → Bool} {kt et t : TypeId} {kd : TypeDesc} {nm : Nat} {l : List (α × β)} {k : α}
theorem OpJ.mdel {ts : Array TypeId} (hts : ts[0]? = some t) (hu : P.underlying t = some (.map kt et)) (hk : P.underlying kt = some kd) (he : KeyEq P kt f eq) (hx : Opd x (.mref nm) nt) (hi : Opd i (.d (f k)) nt') :
    OpJ P B ops ⟨none, .call { callee := .builtin .delete, args := #[x, i], argTypes := ts }, ty, pos, af, none⟩ { nt := nt ++ nt', no := [(nm, .blk (mapB (mpairs f g l)))], wo := [(nm, some (.blk (mapB (mpairs f g (Vc.mdel eq l k)))))] } :=
  OpJ.run0 rfl rfl rfl fun env ob a w σ Z sm hne => by
    obtain ⟨h1, h2⟩ := needs_app hne.1
    have hob := hne.2.1 (nm, .blk (mapB (mpairs f g l))) (by simp)
    obtain ⟨b, hb, hv⟩ := rep_mref (hx B env ob a w σ Z sm h1) ⟨_, hob⟩
    obtain ⟨b', hb', ents, clock, hw, hl, hst⟩ := sm.obj nm _ hob
    have : b' = b := Option.some.inj (hb'.symm.trans hb)
    subst this
    have hkd : DV Z w (f k) (a.eval i) := rep_valOf (hi B env ob a w σ Z sm h2)
    obtain ⟨hh, hle, hfit⟩ := he.fit
    obtain ⟨cs, hcs, hr⟩ := rep_valOf (hi B env ob a w σ Z sm h2)
    have hc := (hfit k k).check (w := w) ents.isEmpty (d := 10000) hle hr
    rw [← hcs] at hc
    obtain ⟨r, g1, g2⟩ := find_run (w := w) hk he hkd hl
    have hg : (getObj b').run P w = .ok (.map ents clock) w := by simp [getObj, Sem.run, hw]
    have hset : ∀ o, (setObj b' o).run P w = .ok () (Vc.setBlk w b' o) := fun o => by simp [setObj, Sem.run, hw, Vc.setBlk]
    have hlt : b' < w.heap.size := (Array.getElem?_eq_some_iff.1 hw).1
    have hself : ∀ o, (Vc.setBlk w b' o).heap[b']? = some o := fun o => by unfold Vc.setBlk; simp [hlt]
    cases hq : mix eq k l with
    | none =>
      rw [hq] at g2
      subst g2
      refine ⟨Vc.setBlk w b' (.map ents clock), σ, Z, .inr ⟨.tuple #[], ?_⟩, ?_⟩
      · simp [execOp, resolve, invoke, builtin, hv, Builtin.delete_, hts, run_underlying hu, hg, hc, g1, hset]
      · rw [eff_obs1 _ rfl, mdel_none hq]
        exact sm.setBlk hob hb hlt (by simp [World.shape?, hself, hw]) fun ob' m => ⟨b', hb, _, _, hself _, hl.ext m.ext, hst⟩
    | some q =>
      obtain ⟨j, bb⟩ := q
      rw [hq] at g2
      obtain ⟨vv, rfl, _⟩ := g2
      refine ⟨Vc.setBlk w b' (.map (ents.eraseIdxIfInBounds j) clock), σ, Z, .inr ⟨.tuple #[], ?_⟩, ?_⟩
      · simp [execOp, resolve, invoke, builtin, hv, Builtin.delete_, hts, run_underlying hu, hg, hc, g1, hset]
      · rw [eff_obs1 _ rfl]
        refine sm.setBlk hob hb hlt (by simp [World.shape?, hself, hw]) fun ob' m => ⟨b', hb, _, _, hself _, ?_, ?_⟩
        · rw [Array.toList_eraseIdxIfInBounds]
          exact mapL_del (hl.ext m.ext) hq
        · rw [Array.toList_eraseIdxIfInBounds]
          exact hst.erase _
end

/-- maps.Clone: a map of its own with the same entries -/
structure MCloneOk (P : Program) (f : FuncId) : Prop where
  run : ∀ (b : Nat) (es : Array MapEntry) (clock : Nat) (w : World), w.heap[b]? = some (.map es clock) → Calls P f #[.map (some b)] w fun e w' => e = .returned (.map (some w.heap.size)) ∧ w' = w.alloc (.map es clock)
theorem AC.mclone {f : FuncId} (h : MCloneOk P f) (ps : List (D × D)) :
    AC P f [.mref 0] [(0, .blk (mapB ps))] (.mref 900000) [(0, some (.blk (mapB ps))), (900000, some (.blk (mapB ps)))] := by
  intro w σ Z cargs pre
  have hlv : live (obOf [(0, Ob.blk (mapB ps))]) 0 := ⟨_, rfl⟩
  have hob := pre.obj 0 _ (rfl : obOf [(0, Ob.blk (mapB ps))] 0 = some (some (.blk (mapB ps))))
  match cargs, pre.args with
  | [v], ⟨ha, _⟩ =>
    obtain ⟨b, hb, rfl⟩ := rep_mref ha hlv
    obtain ⟨b', hb', ents, clock, hw, hl, hst⟩ := hob
    have : b' = b := Option.some.inj (hb'.symm.trans hb)
    subst this
    have hlt : b' < w.heap.size := (Array.getElem?_eq_some_iff.1 hw).1
    have hzb := pre.blk 0 b' hlv hb
    have hold : ∀ q, q < w.heap.size → (w.alloc (.map ents clock)).heap[q]? = w.heap[q]? := fun q hq => (MapKept.heap_alloc w _).2 q hq
    have hnew : (w.alloc (.map ents clock)).heap[w.heap.size]? = some (.map ents clock) := (MapKept.heap_alloc w _).1
    have hsz : w.heap.size ≤ (w.alloc (.map ents clock)).heap.size := by
      have h9 := (Array.getElem?_eq_some_iff.1 hnew).1
      omega
    have hx : Ext Z Z w (w.alloc (.map ents clock)) := ⟨fun _ h => h, fun q hq => hold q (pre.zlt q hq)⟩
    have two : ∀ n o, look [(0, some (Ob.blk (mapB ps))), (900000, some (Ob.blk (mapB ps)))] n = some (some o) → (n = 0 ∨ n = 900000) ∧ o = .blk (mapB ps) := fun n o hq => by
      rw [look_cons] at hq
      split at hq
      · rename_i hn; cases hq; exact ⟨.inl hn.symm, rfl⟩
      · rw [look_cons] at hq
        split at hq
        · rename_i hn; cases hq; exact ⟨.inr hn.symm, rfl⟩
        · simp [look] at hq
    refine (h.run b' ents clock w hw).mono fun ex w' ⟨g1, g2⟩ => ?_
    subst g1; subst g2
    have hσ : ∀ n, n ≠ 900000 → (fun n => if n = 900000 then some w.heap.size else σ n) n = σ n := fun n hn => if_neg hn
    have hlv9 : live (look [(0, some (Ob.blk (mapB ps))), (900000, some (Ob.blk (mapB ps)))]) 900000 := ⟨_, rfl⟩
    refine ⟨_, fun n => if n = 900000 then some w.heap.size else σ n, Z, rfl, ⟨?_, fun n o hn => ?_, fun n m q hn hm h1 h2 => ?_, fun n hn _ _ => hσ n (by omega), fun n q hn _ _ hq => ?_, fun n q hn hq => ?_, fun q hq => Nat.lt_of_lt_of_le (pre.zlt q hq) hsz, fun _ h => h, fun _ h => .inl h, rfl, rfl, rfl, hsz, fun q hq _ => hold q hq⟩⟩
    · exact mk_mref hlv9 (by simp)
    · obtain ⟨hn, ho⟩ := two n o hn
      rw [ho]
      rcases hn with rfl | rfl
      · exact ⟨b', by simpa using hb, ents, clock, (hold b' hlt).trans hw, hl.ext hx, hst⟩
      · exact ⟨w.heap.size, by simp, ents, clock, hnew, hl.ext hx, hst⟩
    · obtain ⟨o, hn⟩ := hn; obtain ⟨o', hm⟩ := hm
      obtain ⟨hn, _⟩ := two n o hn
      obtain ⟨hm, _⟩ := two m o' hm
      rcases hn with rfl | rfl <;> rcases hm with rfl | rfl
      · rfl
      · simp only [show (0 : Nat) ≠ 900000 by decide, if_false, if_true] at h1 h2
        have : b' = q := Option.some.inj (hb.symm.trans h1)
        have : w.heap.size = q := Option.some.inj h2
        omega
      · simp only [show (0 : Nat) ≠ 900000 by decide, if_false, if_true] at h1 h2
        have : b' = q := Option.some.inj (hb.symm.trans h2)
        have : w.heap.size = q := Option.some.inj h1
        omega
      · rfl
    · have hql : live (obOf [(0, Ob.blk (mapB ps))]) n → n = 0 := fun ⟨o, ho⟩ => by
        simp only [obOf, look_cons] at ho
        by_cases h : 0 = n
        · exact h.symm
        · simp [h, look] at ho
      rename_i hl0 _
      obtain rfl := hql hl0
      have : b' = q := Option.some.inj (hb.symm.trans hq)
      subst this
      simp only [World.shape?, hold b' hlt]
    · obtain ⟨o, hn⟩ := hn
      obtain ⟨hn, _⟩ := two n o hn
      rcases hn with rfl | rfl
      · simp only [show (0 : Nat) ≠ 900000 by decide, if_false] at hq
        have : b' = q := Option.some.inj (hb.symm.trans hq)
        subst this
        exact ⟨hzb, .inr ⟨0, hlv, hb⟩⟩
      · simp only [if_true] at hq
        have : w.heap.size = q := Option.some.inj hq
        subst this
        exact ⟨fun hz => by have := pre.zlt _ hz; omega, .inl (Nat.le_refl _)⟩
end Go.Vc
