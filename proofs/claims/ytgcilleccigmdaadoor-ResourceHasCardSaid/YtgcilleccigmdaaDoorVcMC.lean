/- Maps: going through one, in whatever order. -/
import Derived.Test.YtgcilleccigmdaaDoorVcMB
namespace Go.Vc
open Go
variable {P : Program} {B : Base} {ops : Array Oper}

/-- a block that is written no more -/
theorem Sim.settleB {env : Env} {ob : Obs} {a : Act} {w : World} {σ : Nat → Option Nat} {Z : Nat → Prop} (s : Sim B env ob a w σ Z) {n b : Nat} {S : Blk} (hn : ob n = some (some (.blk S))) (hσ : σ n = some b) :
    Sim B env (updO ob n none) a w σ (fun q => Z q ∨ q = b) := by
  have hl : live ob n := ⟨_, hn⟩
  have sk := s.kill n
  have hlv : ∀ m, live (updO ob n none) m → m ≠ n ∧ live ob m := fun m hm => by
    rw [live_upd] at hm
    by_cases hmn : m = n
    · rw [if_pos hmn] at hm; simp at hm
    · rw [if_neg hmn] at hm; exact ⟨hmn, hm⟩
  obtain ⟨hz, hbb⟩ := s.blk n b hl hσ
  have hblt := s.lt hl hσ
  have m : Move (updO ob n none) (updO ob n none) σ σ Z (fun q => Z q ∨ q = b) w w := ⟨⟨fun _ h => .inl h, fun _ _ => rfl⟩, fun _ h => h, fun _ _ h => ⟨h, rfl⟩, fun _ _ _ _ _ => rfl⟩
  refine { sk with env := ?_, obj := ?_, blk := ?_, zlt := ?_, zsub := fun q h => .inl (sk.zsub q h), znew := ?_ }
  · intro j x hj
    obtain ⟨u, h1, h2⟩ := sk.env j x hj
    exact ⟨u, h1, h2.move m⟩
  · intro q o hq
    exact Ob.rep_move m (sk.obj q o hq) rfl (fun _ _ => rfl)
  · intro p q hp hq
    obtain ⟨g1, g2⟩ := sk.blk p q hp hq
    refine ⟨fun h => ?_, g2⟩
    rcases h with h | h
    · exact g1 h
    · subst h
      exact (hlv p hp).1 (s.inj p n q (hlv p hp).2 hl hq hσ)
  · intro q h
    rcases h with h | h
    · exact sk.zlt q h
    · subst h; exact hblt
  · intro q h
    rcases h with h | h
    · exact sk.znew q h
    · subst h; exact .inr hbb

/-- an iterator over a settled map: what is left, and where it stands -/
def iterB (ps : List (D × D)) (cur : Option (D × D)) : Blk where
  holds Z w b := ∃ (m : Nat) (ents : Array MapEntry) (clock : Nat) (seen : Array Nat), w.heap[b]? = some (.mapIter (some m) clock seen clock) ∧ Z m ∧ w.heap[m]? = some (.map ents clock) ∧ Stamps ents.toList clock ∧
    MapL Z w ps (ents.toList.filter fun e => !seen.contains e.born) ∧ ∀ p, cur = some p → ∃ e ∈ ents.toList, seen.back? = some e.born ∧ DV Z w p.1 e.key ∧ DV Z w p.2 e.val
  move hx hb h := by
    obtain ⟨m, ents, clock, seen, h1, h2, h3, h4, h5, h6⟩ := h
    refine ⟨m, ents, clock, seen, hb.trans h1, hx.sub m h2, (hx.same m h2).trans h3, h4, h5.ext hx, fun p hp => ?_⟩
    obtain ⟨e, g1, g2, g3, g4⟩ := h6 p hp
    exact ⟨e, g1, g2, g3.ext hx, g4.ext hx⟩
  lt h := by
    obtain ⟨m, ents, clock, seen, h1, _⟩ := h
    exact (Array.getElem?_eq_some_iff.1 h1).1

theorem MapL.erase {Z : Nat → Prop} {w : World} : ∀ {ps : List (D × D)} {es : List MapEntry} (j : Nat), MapL Z w ps es → MapL Z w (ps.eraseIdx j) (es.eraseIdx j)
  | [], [], _, _ => trivial
  | _ :: _, _ :: _, 0, h => h.2
  | _ :: _, _ :: _, j + 1, h => ⟨h.1, h.2.erase j⟩
  | [], _ :: _, _, h => h.elim
  | _ :: _, [], _, h => h.elim
theorem MapL.get {Z : Nat → Prop} {w : World} : ∀ {ps : List (D × D)} {es : List MapEntry} {j : Nat} {e : MapEntry}, MapL Z w ps es → es[j]? = some e → ∃ p, ps[j]? = some p ∧ DV Z w p.1 e.key ∧ DV Z w p.2 e.val
  | p :: _, e' :: _, 0, e, h, he => by
    simp only [List.getElem?_cons_zero, Option.some.injEq] at he
    subst he
    exact ⟨p, rfl, h.1.1, h.1.2⟩
  | _ :: _, _ :: _, j + 1, e, h, he => by
    obtain ⟨p, h1, h2⟩ := MapL.get h.2 (by simpa using he)
    exact ⟨p, by simpa using h1, h2⟩
  | [], [], _, _, _, he => by simp at he
  | [], _ :: _, _, _, h, _ => h.elim
  | _ :: _, [], _, _, h, _ => h.elim
theorem filter_erase : ∀ {L : List MapEntry} {j : Nat} {e : MapEntry}, (L.map (·.born)).Nodup → L[j]? = some e → L.filter (fun x => x.born != e.born) = L.eraseIdx j
  | [], _, _, _, h => by simp at h
  | x :: L, 0, e, hn, h => by
    simp only [List.getElem?_cons_zero, Option.some.injEq] at h
    subst h
    rw [List.map_cons, List.nodup_cons] at hn
    rw [List.filter_cons, if_neg (by simp), List.eraseIdx_cons_zero, List.filter_eq_self]
    intro y hy
    have : y.born ≠ x.born := fun e => hn.1 (e ▸ List.mem_map_of_mem (f := fun e : MapEntry => e.born) hy)
    simpa using this
  | x :: L, j + 1, e, hn, h => by
    rw [List.map_cons, List.nodup_cons] at hn
    have hm : e ∈ L := List.mem_of_getElem? (by simpa using h)
    have : x.born ≠ e.born := fun h => hn.1 (h ▸ List.mem_map_of_mem (f := fun e : MapEntry => e.born) hm)
    rw [List.filter_cons, if_pos (by simpa using this), filter_erase hn.2 (by simpa using h), List.eraseIdx_cons_succ]
theorem choose_run (n : Nat) (hn : 0 < n) (w : World) : ∃ k w1, k < n ∧ (choose (.mapNext n)).run P w = .ok k w1 ∧ (w1 = w ∨ w1 = w.drew) := by
  unfold choose
  simp only [Sem.run]
  split
  · exact ⟨0, w, hn, rfl, .inl rfl⟩
  · exact ⟨_, _, Nat.mod_lt _ hn, rfl, .inr rfl⟩

section
variable {d : Nat} {x : Operand} {ty : TypeId} {pos : String} {af : Array Edge} {nt : List (Nat × V)} {kt et t : TypeId} {nm it : Nat} {ps : List (D × D)}
theorem OpJ.mrange (hB : B.ok) (hu : P.underlying t = some (.map kt et)) (hit : 1000 ≤ it) (hne : it ≠ nm) (hN : d < B.N) (hx : Opd x (.mref nm) nt) :
    OpJ P B ops ⟨some d, .range t x, ty, pos, af, none⟩ { nt, no := [(nm, .blk (mapB ps))], nf := [it], wt := [(d, .ptr it 0 [])], wo := [(it, some (.blk (iterB ps none))), (nm, none)] } :=
  OpJ.run rfl rfl hN rfl fun env ob a w σ Z sm hn => by
    have hob := hn.2.1 (nm, .blk (mapB ps)) (by simp)
    have hfr := hn.2.2 it (by simp)
    obtain ⟨b, hb, hv⟩ := rep_mref (hx B env ob a w σ Z sm hn.1) ⟨_, hob⟩
    obtain ⟨b', hb', ents, clock, hw, hl, hst⟩ := sm.obj nm _ hob
    have : b' = b := Option.some.inj (hb'.symm.trans hb)
    subst this
    have hg : (getObj b').run P w = .ok (.map ents clock) w := by simp [getObj, Sem.run, hw]
    have s1 := sm.settleB hob hb
    have hfr' : updO ob nm none it = none := by simp only [updO, if_neg hne]; exact hfr
    have s2 := s1.newObj hB hfr' hit (o := .blk (iterB ps none)) (c := .mapIter (some b') clock #[] clock) (by
      intro ob' σ' m hσ
      have h1 := (hl.ext (Z' := fun q => Z q ∨ q = b') (w' := w) ⟨fun _ h => .inl h, fun _ _ => rfl⟩).ext m.ext
      refine ⟨w.heap.size, hσ, b', ents, clock, #[], heap_alloc_new w _, .inr rfl, ?_, hst, ?_, fun p hp => by cases hp⟩
      · rw [Go.RowKit.Below.heap_alloc w _ b' (Array.getElem?_eq_some_iff.1 hw).1]; exact hw
      · rw [List.filter_eq_self.2 (fun _ _ => by simp)]; exact h1)
    refine ⟨.pointer (some ⟨w.heap.size, 0, none⟩), w.alloc (.mapIter (some b') clock #[] clock), updS σ it (some w.heap.size), fun q => Z q ∨ q = b', ?_, ?_, ?_⟩
    · have hr : (Instr.range t (.map (some b'))).run P w = .ok (.pointer (some ⟨w.heap.size, 0, none⟩)) (w.alloc (.mapIter (some b') clock #[] clock)) := by
        simp [Instr.range, run_underlying hu, hg]
      simp [execOp, hv, hr]
    · have e : Eff.obs { nt, no := [(nm, .blk (mapB ps))], nf := [it], wt := [(d, .ptr it 0 [])], wo := [(it, some (.blk (iterB ps none))), (nm, none)] } ob = updO (updO ob nm none) it (some (.blk (iterB ps none))) := by
        funext q
        simp only [Eff.obs, look_cons, updO]
        by_cases h1 : it = q
        · subst h1; simp
        · by_cases h2 : nm = q
          · subst h2; simp [h1, Ne.symm hne]
          · simp [h1, h2, Ne.symm h1, Ne.symm h2, look]
      rw [e]; exact s2
    · have e : Eff.obs { nt, no := [(nm, .blk (mapB ps))], nf := [it], wt := [(d, .ptr it 0 [])], wo := [(it, some (.blk (iterB ps none))), (nm, none)] } ob it = some (some (.blk (iterB ps none))) := by
        simp [Eff.obs, look_cons]
      exact mk_ptr ⟨_, e⟩ (by simp [updS])

theorem born_inj : ∀ {L : List MapEntry}, (L.map (·.born)).Nodup → ∀ {e e' : MapEntry}, e ∈ L → e' ∈ L → e.born = e'.born → e = e'
  | [], _, e, e', h, _, _ => by simp at h
  | x :: L, hn, e, e', h, h', hb => by
    rw [List.map_cons, List.nodup_cons] at hn
    rcases List.mem_cons.1 h with rfl | h1 <;> rcases List.mem_cons.1 h' with rfl | h2
    · rfl
    · exact (hn.1 (hb ▸ List.mem_map_of_mem (f := fun e : MapEntry => e.born) h2)).elim
    · exact (hn.1 (hb ▸ List.mem_map_of_mem (f := fun e : MapEntry => e.born) h1)).elim
    · exact born_inj hn.2 h1 h2 hb
theorem OpJ.mentry {q : D × D} (hN : d < B.N) (hx : Opd x (.ptr it 0 []) nt) :
    OpJ P B ops ⟨some d, .entry x, ty, pos, af, none⟩ { nt, no := [(it, .blk (iterB ps (some q)))], wt := [(d, .tup [.d q.1, .d q.2])] } :=
  OpJ.run rfl rfl hN rfl fun env ob a w σ Z sm hn => by
    have hob := hn.2.1 (it, .blk (iterB ps (some q))) (by simp)
    obtain ⟨b, hb, hv⟩ := rep_ptr (hx B env ob a w σ Z sm hn.1) ⟨_, hob⟩
    obtain ⟨b', hb', m, ents, clock, seen, h1, h2, h3, h4, h5, h6⟩ := sm.obj it _ hob
    have : b' = b := Option.some.inj (hb'.symm.trans hb)
    subst this
    obtain ⟨e, g1, g2, g3, g4⟩ := h6 q rfl
    have hg1 : (getObj b').run P w = .ok (.mapIter (some m) clock seen clock) w := by simp [getObj, Sem.run, h1]
    have hg2 : (getObj m).run P w = .ok (.map ents clock) w := by simp [getObj, Sem.run, h3]
    have hf : ents.find? (fun x => x.born == e.born) = some e := by
      rw [← Array.find?_toList]
      cases hq : ents.toList.find? (fun x => x.born == e.born) with
      | none =>
        have := List.find?_eq_none.1 hq e g1
        simp at this
      | some e' =>
        have k1 := List.find?_some hq
        have k2 := List.mem_of_find?_eq_some hq
        rw [born_inj h4.apart k2 g1 (by simpa using k1)]
    refine ⟨.tuple #[e.key, e.val], w, σ, Z, ?_, by rw [eff_obs0 _ rfl]; exact sm, ?_⟩
    · have hr : (Instr.entry (.pointer (some ⟨b', 0, none⟩))).run P w = .ok (.tuple #[e.key, e.val]) w := by
        simp [Instr.entry, hg1, g2, hg2, hf]
      simp [execOp, hv, hr]
    · rw [eff_obs0 _ rfl]
      exact ⟨[e.key, e.val], rfl, RepT.to (DV.to g3) rfl, RepT.to (DV.to g4) rfl, trivial⟩
theorem next_run {env : Env} {ob : Obs} {a : Act} {w : World} {σ : Nat → Option Nat} {Z : Nat → Prop} {cur : Option (D × D)} {b : Nat} (s : Sim B env ob a w σ Z) (hob : ob it = some (some (.blk (iterB ps cur)))) (hb : σ it = some b) :
    (ps = [] ∧ ∃ w1, (w1 = w ∨ w1 = w.drew) ∧ (Instr.next (.pointer (some ⟨b, 0, none⟩)) false ty).run P w = .ok (.tuple #[.bool false]) w1) ∨
    ∃ j p w1 kv vv, ps[j]? = some p ∧ (Instr.next (.pointer (some ⟨b, 0, none⟩)) false ty).run P w = .ok (.tuple #[.bool true, kv, vv]) w1 ∧ Sim B env (updO ob it (some (.blk (iterB (ps.eraseIdx j) (some p))))) a w1 σ Z := by
  obtain ⟨b', hb', m, ents, clock, seen, h1, h2, h3, h4, h5, h6⟩ := s.obj it _ hob
  have : b' = b := Option.some.inj (hb'.symm.trans hb)
  subst this
  have hg1 : (getObj b').run P w = .ok (.mapIter (some m) clock seen clock) w := by simp [getObj, Sem.run, h1]
  have hg2 : (getObj m).run P w = .ok (.map ents clock) w := by simp [getObj, Sem.run, h3]
  have hnot : (!seen.isEmpty && !ents.isEmpty && ents.all (fun e => decide (e.born ≥ clock))) = false := by
    cases he : ents.isEmpty with
    | true => simp
    | false =>
      have : ents.all (fun e => decide (e.born ≥ clock)) = false := by
        rw [← Array.all_toList]
        cases hl : ents.toList with
        | nil => simp at hl; subst hl; simp at he
        | cons x L =>
          have := h4.below x (by rw [hl]; exact List.mem_cons_self)
          simp only [List.all_cons, Bool.and_eq_false_iff, decide_eq_false_iff_not]
          exact .inl (by omega)
      rw [this]; simp
  have hold : ((ents.filter fun e => !seen.contains e.born).filter fun e => decide (e.born < clock)) = ents.filter fun e => !seen.contains e.born := by
    refine Array.filter_eq_self.2 fun e he => ?_
    simpa using h4.below e (by simpa using (Array.mem_filter.1 he).1)
  have hnew : ((ents.filter fun e => !seen.contains e.born).filter fun e => decide (e.born ≥ clock)) = #[] := by
    refine Array.filter_eq_empty_iff.2 fun e he => ?_
    have := h4.below e (by simpa using (Array.mem_filter.1 he).1)
    simp; omega
  have htl : (ents.filter fun e => !seen.contains e.born).toList = ents.toList.filter fun e => !seen.contains e.born := by simp
  generalize hL : (ents.filter fun e => !seen.contains e.born) = L at hold hnew htl
  rw [← htl] at h5
  have hrun : ∀ (k : Nat) (w1 : World) (c : Option MapEntry), (choose (.mapNext ((if L.isEmpty then #[none] else #[]) ++ (L ++ (#[] : Array MapEntry)).map some).size)).run P w = .ok k w1 → ((if L.isEmpty then #[none] else #[]) ++ (L ++ (#[] : Array MapEntry)).map some)[k]? = some c →
      (Instr.next (.pointer (some ⟨b', 0, none⟩)) false ty).run P w = (match c with
        | some e => (do setObj b' (.mapIter (some m) clock (seen.push e.born) clock); pure (.tuple #[.bool true, e.key, e.val]) : Sem Value).run P w1
        | none => .ok (.tuple #[.bool false]) w1) := by
    intro k w1 c hk hc
    unfold Instr.next
    simp only [Sem.run_bind, hg1, Result.andThen_ok, hg2, hnot, Bool.false_eq_true, if_false, hL, hold, hnew]
    rw [hk]
    simp only [Result.andThen_ok, hc]
    cases c <;> simp
  by_cases hE : L = #[]
  · subst hE
    left
    have hp : ps = [] := by
      have := h5.len
      exact List.eq_nil_of_length_eq_zero (by simpa using this.symm)
    obtain ⟨k, w1, hk, hr, hw1⟩ := choose_run (P := P) 1 (by omega) w
    have hk0 : k = 0 := by omega
    subst hk0
    refine ⟨hp, w1, hw1, ?_⟩
    exact hrun 0 w1 none (by simpa using hr) (by simp)
  · right
    have hpos : 0 < L.size := by
      rcases Nat.eq_zero_or_pos L.size with h | h
      · exact (hE (Array.eq_empty_of_size_eq_zero h)).elim
      · exact h
    have hne : L.isEmpty = false := by simp [Array.isEmpty]; omega
    obtain ⟨k, w1, hk, hr, hw1⟩ := choose_run (P := P) L.size hpos w
    have hLk : L.toList[k]? = some L[k] := by simp [hk]
    obtain ⟨p, hp, hp1, hp2⟩ := h5.get hLk
    have hmem : L[k] ∈ ents.toList := by
      have : L[k] ∈ L.toList := by simp
      rw [htl] at this
      exact (List.mem_filter.1 this).1
    have s1 : Sim B env ob a w1 σ Z := by
      rcases hw1 with rfl | rfl
      · exact s
      · exact s.drew
    have hh1 : w1.heap = w.heap := by rcases hw1 with rfl | rfl <;> rfl
    have h1' : w1.heap[b']? = some (.mapIter (some m) clock seen clock) := by rw [hh1]; exact h1
    have hlt : b' < w1.heap.size := (Array.getElem?_eq_some_iff.1 h1').1
    have hset : ∀ o, (setObj b' o).run P w1 = .ok () (Vc.setBlk w1 b' o) := fun o => by simp [setObj, Sem.run, h1', Vc.setBlk]
    have hself : ∀ o, (Vc.setBlk w1 b' o).heap[b']? = some o := fun o => by unfold Vc.setBlk; simp [hlt]
    have hzb : m ≠ b' := fun e => (s.blk it b' ⟨_, hob⟩ hb).1 (e ▸ h2)
    refine ⟨k, p, Vc.setBlk w1 b' (.mapIter (some m) clock (seen.push L[k].born) clock), L[k].key, L[k].val, hp, ?_, ?_⟩
    · rw [hrun k w1 (some L[k]) (by simpa [hne] using hr) (by simp [hne, hk])]
      simp [hset]
    · refine s1.setBlk hob hb hlt (by simp [World.shape?, hself, h1']) fun ob' mv => ⟨b', hb, m, ents, clock, seen.push L[k].born, hself _, h2, ?_, h4, ?_, fun p' hp' => ?_⟩
      · have : (Vc.setBlk w1 b' (.mapIter (some m) clock (seen.push L[k].born) clock)).heap[m]? = w1.heap[m]? := by unfold Vc.setBlk; simp [Ne.symm hzb]
        rw [this, hh1]; exact h3
      · have e1 : (ents.toList.filter fun e => !(seen.push L[k].born).contains e.born) = (L.toList.filter fun x => x.born != L[k].born) := by
          rw [htl, List.filter_filter]
          refine List.filter_congr fun e _ => ?_
          simp [Bool.and_comm, bne]
          rfl
        have hnd : (L.toList.map (·.born)).Nodup := by
          rw [htl]
          exact h4.apart.sublist (List.Sublist.map _ List.filter_sublist)
        rw [e1, filter_erase hnd hLk]
        have := (h5.erase k).ext (Z' := Z) (w' := w1) ⟨fun _ h => h, fun q hq => by rw [hh1]⟩
        exact this.ext mv.ext
      · cases hp'
        refine ⟨L[k], hmem, by simp, ?_, ?_⟩
        · exact (hp1.ext (Z' := Z) (w' := w1) ⟨fun _ h => h, fun q hq => by rw [hh1]⟩).ext mv.ext
        · exact (hp2.ext (Z' := Z) (w' := w1) ⟨fun _ h => h, fun q hq => by rw [hh1]⟩).ext mv.ext
end
end Go.Vc
