/- A run of the machine only adds to what was drawn. -/
import Derived.Lone
import Derived.Calls
namespace Go.Vc
open Go
theorem A6k {α:Type}:∀ (x:Ask α) (w:World),w.drawn≤(w.ask x).2.drawn
 | .done a,w=>by simp [World.ask]
 | .ask what range k,w=>by
  unfold World.ask
  simp only
  split
  ·exact A6k _ w
  ·have:=A6k (k ((Question.extern what range).cut (w.tape w.drawn (Question.extern what range)))) { w with drawn:=w.drawn+1 }
   exact Nat.le_trans (Nat.le_succ _) this
theorem B37 (w:World) (c:Sys):w.drawn≤(w.sys c).2.drawn:=by
 have:=A6k (Kernel.perform c w.os) w
 unfold World.sys
 split
 ·exact Nat.le_refl _
 ·rename_i h
  rw [h] at this
  exact this
theorem A7w {ε α β:Type} {x:Except ε α} {f:α→Except ε β} {b:β} (h:(x >>= f) = .ok b):∃ a,x = .ok a∧f a = .ok b:=by
 cases x with
 | error e=>cases h
 | ok a=>exact⟨a,rfl,h⟩
theorem A7f {p:Program} {w w':World} {at_ k:Addr} {u:TypeId} {v:Value} {atomic:Bool} {l:List Addr} (h:w.viewStore p at_ u k v atomic = .ok (w',l)):w'.drawn=w.drawn:=by
 unfold World.viewStore at h
 dsimp only at h
 split at h
 ·obtain⟨_,h1,_⟩:=A7w h;cases h1
 ·obtain⟨⟨c,e,frozen,first,like,cells⟩,_,h⟩:=A7w h
  dsimp only at h
  split at h
  ·split at h
   ·obtain⟨_,h1,_⟩:=A7w h;cases h1
   ·obtain⟨_,_,h⟩:=A7w h
    cases h
    rfl
  ·cases h
theorem A89 {p:Program} {w w':World} {a:Addr} {v:Value} {atomic:Bool} {l:List Addr} (h:w.farStore p a v atomic = .ok (w',l)):w'.drawn=w.drawn:=by
 unfold World.farStore at h
 split at h
 ·split at h
  ·rename_i r hr
   cases h
   exact A7f hr
  ·cases h
 ·cases h
def rw {α:Type}:Result α→World
 | .ok _ w=>w
 | .halt _ w=>w
theorem Sem.rw_drawn {α:Type} {p:Program}:∀ (x:Sem α) (w:World),w.drawn≤(rw (x.run p w)).drawn:=by
 intro x
 induction x with
 | pure a=>intro w;exact Nat.le_refl _
 | load m a k ih =>
  intro w
  simp only [Sem.run]
  split
  ·exact ih _ _
  ·split
   ·exact ih _ _
   ·exact Nat.le_refl _
 | store m a v k ih =>
  intro w
  have key:w.drawn≤(rw (match w.cell? a with
   | some _=>if w.frozen? a then (.halt (.unsupported (.unsafePointer "a write to bytes that a string shares")) w:Result α) else k.run p (w.setCell a v)
   | none=>match w.farStore p a v (m==Mode.atomic) with
    | .ok (w,_)=>k.run p w
    | .error h => .halt h w)).drawn:=by
   split
   ·split
    ·exact Nat.le_refl _
    ·exact ih (w.setCell a v)
   ·split
    ·rename_i hf
     have:=A89 hf
     have:=ih (by assumption)
     omega
    ·exact Nat.le_refl _
  cases v<;>first | exact key | (simp [Sem.run,rw];done)
 | new o k ih =>
  intro w
  exact ih w.heap.size { w with heap:=w.heap.push o }
 | shape r k ih=>intro w;exact ih _ _
 | freeze a n k ih =>
  intro w
  have h1:=ih (w.freeze a n)
  have h2:(w.freeze a n).drawn=w.drawn:=by unfold World.freeze;split<;>rfl
  rw [h2] at h1
  exact h1
 | frozen a k ih=>intro w;exact ih _ _
 | getObj r k ih =>
  intro w
  simp only [Sem.run]
  split
  ·exact Nat.le_refl _
  ·exact ih _ _
  ·exact Nat.le_refl _
 | setObj r o k ih =>
  intro w
  simp only [Sem.run]
  split
  ·exact Nat.le_refl _
  ·exact ih { w with heap:=w.heap.setIfInBounds r o }
  ·exact Nat.le_refl _
 | choose q k ih =>
  intro w
  simp only [Sem.run]
  split
  ·exact ih _ _
  ·have:=ih (q.cut (w.tape w.drawn q)) { w with drawn:=w.drawn+1 }
   exact Nat.le_trans (Nat.le_succ _) this
 | sys c k ih =>
  intro w
  exact Nat.le_trans (B37 w c) (ih _ _)
 | program k ih=>intro w;exact ih _ _
 | mark m k ih=>intro w;exact ih w
 | halt h=>intro w;exact Nat.le_refl _
def gw:GStep→Option World
 | .go _ w _ | .comm _ _ _ _ w _ | .spawn _ _ w _ | .count _ w _ | .timer _ _ w _ | .alone _ _ w _ | .newcoro _ _ _ w _ | .coroswitch _ _ _ w _ | .collect _ w _ | .watch _ w _=>some w
 | .ended .. => none
structure GLe (w:World) (s:GStep):Prop where
 le:∀ w',gw s=some w'→w.drawn≤w'.drawn
theorem GLe.after {w:World} {es:Array Event} {s:GStep} (h:GLe w s):GLe w (GStep.after es s):=by
 refine⟨fun w' hw => ?_⟩
 cases s<;>exact h.le w' hw
theorem GLe.ended {w w1:World} {o:Outcome} {es:Array Event}:GLe w (.ended o w1 es):=⟨fun _ h=>by cases h⟩
theorem GLe.trans {w w1:World} {s:GStep} (h:w.drawn≤w1.drawn) (h1:GLe w1 s):GLe w s:=⟨fun w' hw=>Nat.le_trans h (h1.le w' hw)⟩
theorem GLe.ite {w:World} {c:Prop} [Decidable c] {a b:GStep} (ha:GLe w a) (hb:GLe w b):GLe w (if c then a else b):=by split<;>assumption
theorem GLe.go {w w1:World} {g:Goroutine} {es:Array Event} (h:w.drawn≤w1.drawn):GLe w (.go g w1 es):=⟨fun _ e=>by cases e;exact h⟩
theorem GLe.comm {w w1:World} {g:Goroutine} {cs:Array CommCase} {b:Bool} {sh:CommShape} {es:Array Event} (h:w.drawn≤w1.drawn):GLe w (.comm g cs b sh w1 es):=⟨fun _ e=>by cases e;exact h⟩
theorem GLe.spawn {w w1:World} {g g':Goroutine} {es:Array Event} (h:w.drawn≤w1.drawn):GLe w (.spawn g g' w1 es):=⟨fun _ e=>by cases e;exact h⟩
theorem GLe.count {w w1:World} {g:Goroutine} {es:Array Event} (h:w.drawn≤w1.drawn):GLe w (.count g w1 es):=⟨fun _ e=>by cases e;exact h⟩
theorem GLe.timer {w w1:World} {g:Goroutine} {op:TimerOp} {es:Array Event} (h:w.drawn≤w1.drawn):GLe w (.timer g op w1 es):=⟨fun _ e=>by cases e;exact h⟩
theorem GLe.alone {w w1:World} {g:Goroutine} {b:Bool} {es:Array Event} (h:w.drawn≤w1.drawn):GLe w (.alone g b w1 es):=⟨fun _ e=>by cases e;exact h⟩
theorem GLe.newcoro {w w1:World} {g:Goroutine} {c:Nat} {d:Deferred} {es:Array Event} (h:w.drawn≤w1.drawn):GLe w (.newcoro g c d w1 es):=⟨fun _ e=>by cases e;exact h⟩
theorem GLe.coroswitch {w w1:World} {g:Goroutine} {c:Nat} {d:Bool} {es:Array Event} (h:w.drawn≤w1.drawn):GLe w (.coroswitch g c d w1 es):=⟨fun _ e=>by cases e;exact h⟩
theorem GLe.collect {w w1:World} {g:Goroutine} {es:Array Event} (h:w.drawn≤w1.drawn):GLe w (.collect g w1 es):=⟨fun _ e=>by cases e;exact h⟩
theorem GLe.watch {w w1:World} {g:Goroutine} {es:Array Event} (h:w.drawn≤w1.drawn):GLe w (.watch g w1 es):=⟨fun _ e=>by cases e;exact h⟩
theorem A71 (fr:Frame) (l:List ByteArray) (m:String) (b:Bool) (w:World):GLe w (dieOf fr l m b w):=.go (Nat.le_refl _)
theorem F6 (fr:Frame) (m:String) (w:World):GLe w (endThrow fr m w):=A71 ..
theorem A3 {α:Type} {p:Program} {x:Sem α} {w:World} {r:Result α} (h:x.run p w=r):w.drawn≤(rw r).drawn:=h ▸ Sem.rw_drawn x w
theorem A9a (w:World) (fd:Nat) (t:ByteArray) (o:Outcome):GLe w (endWith w fd t o):=by
 unfold endWith
 dsimp only
 repeat' first
  | exact .ended
  | split
theorem A34 (p:Program) (fr:Frame) (v:Value) (w:World):GLe w (endPrinting p fr v w):=by
 unfold endPrinting
 dsimp only
 repeat' first
  | exact .ended
  | exact F6 ..
  | split
theorem G9 (p:Program) (fr:Frame) (cs:List Frame) (d:Option Dying) (m:String) (w:World):GLe w (endFatal p fr cs d m w):=by
 unfold endFatal
 dsimp only
 split
 ·rename_i h
  exact .trans (A3 h) (A71 ..)
 ·exact .ended
 ·exact .ended
theorem G5 (p:Program) (b:Bool) (fr:Frame) (cs:List Frame) (d:Option Dying) (v:Value) (w:World):GLe w (doReturn p b fr cs d v w):=by
 unfold doReturn
 repeat' first
  | (first | exact GLe.ended | exact GLe.go (Nat.le_refl _))
  | split
theorem A9b (p:Program) (fr:Frame) (d:Dying) (f:Fatal) (w:World):GLe w (writeOn p fr d f w):=by
 unfold writeOn
 dsimp only
 split
 ·exact .ended
 ·simp only [Sem.runT_eq]
  split
  all_goals first
   | exact .ended
   | (rename_i h;rw [Prod.mk.injEq] at h;exact .go (A3 h.1))
theorem B38 (p:Program) (fr:Frame) (d:Dying) (w:World):GLe w (die p fr d w):=by
 unfold die
 dsimp only
 split
 ·exact A9b ..
 ·split
  ·split
   ·(first | exact GLe.ended | exact GLe.go (Nat.le_refl _))
   ·exact A9a ..
  ·split
   ·(first | exact GLe.ended | exact GLe.go (Nat.le_refl _))
   ·split
    ·rename_i h;exact .go (A3 h)
    ·(first | exact GLe.ended | exact GLe.go (Nat.le_refl _))
   ·simp only [Sem.runT_eq]
    refine .after ?_
    split
    all_goals first
     | exact .ended
     | (rename_i h;exact .go (A3 h))
     | (rename_i h;exact .trans (A3 h) (A34 ..))
   ·(first | exact GLe.ended | exact GLe.go (Nat.le_refl _))
theorem A5q (p:Program) (fr:Frame) (cs:List Frame) (dy:Option Dying) (d:Deferred) (w:World):GLe w (callDeferred p fr cs dy d w):=by
 unfold callDeferred
 dsimp only
 refine .ite .ended ?_
 simp only [Sem.runT_eq]
 refine .after ?_
 split
 all_goals first
  | (first | exact GLe.ended | exact GLe.go (Nat.le_refl _) | (rename_i h;exact GLe.go (A3 h)) | (rename_i h;exact GLe.comm (A3 h)) | (rename_i h;exact GLe.spawn (A3 h)) | (rename_i h;exact GLe.count (A3 h)) | (rename_i h;exact GLe.timer (A3 h)) | (rename_i h;exact GLe.alone (A3 h)) | (rename_i h;exact GLe.newcoro (A3 h)) | (rename_i h;exact GLe.coroswitch (A3 h)) | (rename_i h;exact GLe.collect (A3 h)) | (rename_i h;exact GLe.watch (A3 h)) | (rename_i h;exact GLe.trans (A3 h) (G9 ..)) | (rename_i h;exact GLe.trans (A3 h) (F6 ..)) | (rename_i h;exact GLe.trans (A3 h) (G5 ..)))
  | (rename_i h;have h':=A3 h;split<;>exact GLe.go h')
theorem B00 (p:Program) (b:Bool) (fr:Frame) (cs:List Frame) (dy:Option Dying) (w:World):GLe w (unwind p b fr cs dy w):=by
 unfold unwind
 dsimp only
 simp only [Sem.runT_eq]
 split
 ·refine .after ?_
  split<;>(first | exact GLe.ended | exact GLe.go (Nat.le_refl _) | (rename_i h;exact GLe.go (A3 h)) | (rename_i h;exact GLe.comm (A3 h)) | (rename_i h;exact GLe.spawn (A3 h)) | (rename_i h;exact GLe.count (A3 h)) | (rename_i h;exact GLe.timer (A3 h)) | (rename_i h;exact GLe.alone (A3 h)) | (rename_i h;exact GLe.newcoro (A3 h)) | (rename_i h;exact GLe.coroswitch (A3 h)) | (rename_i h;exact GLe.collect (A3 h)) | (rename_i h;exact GLe.watch (A3 h)) | (rename_i h;exact GLe.trans (A3 h) (G9 ..)) | (rename_i h;exact GLe.trans (A3 h) (F6 ..)) | (rename_i h;exact GLe.trans (A3 h) (G5 ..)))
 ·exact A5q ..
 ·split
  ·exact .ended
  ·split
   ·exact .ended
   ·split
    ·(first | exact GLe.ended | exact GLe.go (Nat.le_refl _))
    ·split
     ·split
      ·(first | exact GLe.ended | exact GLe.go (Nat.le_refl _))
      ·split<;>(first | exact GLe.ended | exact GLe.go (Nat.le_refl _) | (rename_i h;exact GLe.go (A3 h)) | (rename_i h;exact GLe.comm (A3 h)) | (rename_i h;exact GLe.spawn (A3 h)) | (rename_i h;exact GLe.count (A3 h)) | (rename_i h;exact GLe.timer (A3 h)) | (rename_i h;exact GLe.alone (A3 h)) | (rename_i h;exact GLe.newcoro (A3 h)) | (rename_i h;exact GLe.coroswitch (A3 h)) | (rename_i h;exact GLe.collect (A3 h)) | (rename_i h;exact GLe.watch (A3 h)) | (rename_i h;exact GLe.trans (A3 h) (G9 ..)) | (rename_i h;exact GLe.trans (A3 h) (F6 ..)) | (rename_i h;exact GLe.trans (A3 h) (G5 ..)))
     ·split
      ·exact A34 ..
      ·exact .ended
  ·split
   ·exact G5 ..
   ·refine .after ?_
    split<;>(first | exact GLe.ended | exact GLe.go (Nat.le_refl _) | (rename_i h;exact GLe.go (A3 h)) | (rename_i h;exact GLe.comm (A3 h)) | (rename_i h;exact GLe.spawn (A3 h)) | (rename_i h;exact GLe.count (A3 h)) | (rename_i h;exact GLe.timer (A3 h)) | (rename_i h;exact GLe.alone (A3 h)) | (rename_i h;exact GLe.newcoro (A3 h)) | (rename_i h;exact GLe.coroswitch (A3 h)) | (rename_i h;exact GLe.collect (A3 h)) | (rename_i h;exact GLe.watch (A3 h)) | (rename_i h;exact GLe.trans (A3 h) (G9 ..)) | (rename_i h;exact GLe.trans (A3 h) (F6 ..)) | (rename_i h;exact GLe.trans (A3 h) (G5 ..)))
theorem B0o (p:Program) (fr:Frame) (cs:List Frame) (dy:Option Dying) (g:Nat) (w:World):GLe w (early p fr cs dy g w):=by
 have hn:∀ w1:World,w.drawn≤w1.drawn→GLe w (match w1.heap[g]? with
  | some (.pending c elem) => .go { frame:=fr,callers:=cs,status:=.running,dying:=dy } { w1 with heap:=w1.heap.setIfInBounds g (.cells c elem) }
  | _ => .ended (.stuck "early: the variable does not wait" (fr.pos p)) w1):=by
  intro w1 h
  split
  ·exact .go h
  ·exact .ended
 unfold early
 dsimp only
 repeat' first
  | exact hn _ (Nat.le_refl _)
  | exact GLe.ended
  | exact GLe.go (Nat.le_refl _)
  | (rename_i h;exact hn _ (A3 h))
  | (rename_i h _;exact GLe.go (A3 h))
  | (rename_i h;exact GLe.go (A3 h))
  | split
theorem A35 (p:Program) (fr:Frame) (cs:List Frame) (dy:Option Dying) (s:Sem Next) (w:World) (b:Bool):GLe w (stepG.apply p b fr cs dy s w):=by
 unfold stepG.apply
 dsimp only
 simp only [Sem.runT_eq]
 refine .after ?_
 have e:(if b=true then (s.run p w,s.events p w #[]) else (s.run p w,#[])).1=s.run p w:=by split<;>rfl
 rw [e]
 split
 all_goals first
  | (first | exact GLe.ended | exact GLe.go (Nat.le_refl _) | (rename_i h;exact GLe.go (A3 h)) | (rename_i h;exact GLe.comm (A3 h)) | (rename_i h;exact GLe.spawn (A3 h)) | (rename_i h;exact GLe.count (A3 h)) | (rename_i h;exact GLe.timer (A3 h)) | (rename_i h;exact GLe.alone (A3 h)) | (rename_i h;exact GLe.newcoro (A3 h)) | (rename_i h;exact GLe.coroswitch (A3 h)) | (rename_i h;exact GLe.collect (A3 h)) | (rename_i h;exact GLe.watch (A3 h)) | (rename_i h;exact GLe.trans (A3 h) (G9 ..)) | (rename_i h;exact GLe.trans (A3 h) (F6 ..)) | (rename_i h;exact GLe.trans (A3 h) (G5 ..)))
  | (rename_i h;exact GLe.trans (A3 h) (B0o ..))
  | (rename_i h;have h':=A3 h;split<;>exact GLe.go h')
  | (rename_i h;have h':=A3 h;(repeat' (first | exact GLe.trans h' (F6 ..) | exact GLe.spawn h' | split)))
theorem A8a {α:Type} {w:World} {o:Option α} {s:GStep} {f:α→GStep} (h:GLe w s) (hf:∀ a,GLe w (f a)):GLe w (o.elim s f):=by
 cases o with
 | none=>exact h
 | some a=>exact hf a
theorem B1u (p:Program) (l:Bool) (fr:Frame) (cs:List Frame) (dy:Option Dying) (w:World):GLe w (stepG.oper p l fr cs dy w):=by
 unfold stepG.oper
 split
 ·(first | exact GLe.ended | exact GLe.go (Nat.le_refl _))
 ·split<;>exact A35 ..
theorem B1v (p:Program) (b:Bool) (fr:Frame) (cs:List Frame) (dy:Option Dying) (w:World) (l:Bool):GLe w (stepG.exec p b l fr cs dy w):=by
 unfold stepG.exec
 dsimp only
 simp only [Sem.runT_eq]
 split
 all_goals first
  | (first | exact GLe.ended | exact GLe.go (Nat.le_refl _))
  | exact A35 ..
  | (split;exact GLe.ite (.go (Nat.le_refl _)) .ended;refine GLe.after ?_;split<;>(first | exact GLe.ended | exact GLe.go (Nat.le_refl _) | (rename_i h;exact GLe.go (A3 h)) | (rename_i h;exact GLe.comm (A3 h)) | (rename_i h;exact GLe.spawn (A3 h)) | (rename_i h;exact GLe.count (A3 h)) | (rename_i h;exact GLe.timer (A3 h)) | (rename_i h;exact GLe.alone (A3 h)) | (rename_i h;exact GLe.newcoro (A3 h)) | (rename_i h;exact GLe.coroswitch (A3 h)) | (rename_i h;exact GLe.collect (A3 h)) | (rename_i h;exact GLe.watch (A3 h)) | (rename_i h;exact GLe.trans (A3 h) (G9 ..)) | (rename_i h;exact GLe.trans (A3 h) (F6 ..)) | (rename_i h;exact GLe.trans (A3 h) (G5 ..))))
  | exact A8a (by(split;exact GLe.ite (.go (Nat.le_refl _)) .ended;refine GLe.after ?_;split<;>(first | exact GLe.ended | exact GLe.go (Nat.le_refl _) | (rename_i h;exact GLe.go (A3 h)) | (rename_i h;exact GLe.comm (A3 h)) | (rename_i h;exact GLe.spawn (A3 h)) | (rename_i h;exact GLe.count (A3 h)) | (rename_i h;exact GLe.timer (A3 h)) | (rename_i h;exact GLe.alone (A3 h)) | (rename_i h;exact GLe.newcoro (A3 h)) | (rename_i h;exact GLe.coroswitch (A3 h)) | (rename_i h;exact GLe.collect (A3 h)) | (rename_i h;exact GLe.watch (A3 h)) | (rename_i h;exact GLe.trans (A3 h) (G9 ..)) | (rename_i h;exact GLe.trans (A3 h) (F6 ..)) | (rename_i h;exact GLe.trans (A3 h) (G5 ..))))) fun _ => .go (Nat.le_refl _)
  | exact A8a .ended fun _=>A35 ..
  | (refine GLe.after ?_;split<;>first | (first | exact GLe.ended | exact GLe.go (Nat.le_refl _) | (rename_i h;exact GLe.go (A3 h)) | (rename_i h;exact GLe.comm (A3 h)) | (rename_i h;exact GLe.spawn (A3 h)) | (rename_i h;exact GLe.count (A3 h)) | (rename_i h;exact GLe.timer (A3 h)) | (rename_i h;exact GLe.alone (A3 h)) | (rename_i h;exact GLe.newcoro (A3 h)) | (rename_i h;exact GLe.coroswitch (A3 h)) | (rename_i h;exact GLe.collect (A3 h)) | (rename_i h;exact GLe.watch (A3 h)) | (rename_i h;exact GLe.trans (A3 h) (G9 ..)) | (rename_i h;exact GLe.trans (A3 h) (F6 ..)) | (rename_i h;exact GLe.trans (A3 h) (G5 ..))) | (rename_i h;exact GLe.trans (A3 h) (A35 ..)))
  | (split<;>(first | exact GLe.ended | exact GLe.go (Nat.le_refl _) | (rename_i h;exact GLe.go (A3 h)) | (rename_i h;exact GLe.comm (A3 h)) | (rename_i h;exact GLe.spawn (A3 h)) | (rename_i h;exact GLe.count (A3 h)) | (rename_i h;exact GLe.timer (A3 h)) | (rename_i h;exact GLe.alone (A3 h)) | (rename_i h;exact GLe.newcoro (A3 h)) | (rename_i h;exact GLe.coroswitch (A3 h)) | (rename_i h;exact GLe.collect (A3 h)) | (rename_i h;exact GLe.watch (A3 h)) | (rename_i h;exact GLe.trans (A3 h) (G9 ..)) | (rename_i h;exact GLe.trans (A3 h) (F6 ..)) | (rename_i h;exact GLe.trans (A3 h) (G5 ..))))
  | (split;(first | exact GLe.ended | exact GLe.go (Nat.le_refl _));split<;>(first | exact GLe.ended | exact GLe.go (Nat.le_refl _) | (rename_i h;exact GLe.go (A3 h)) | (rename_i h;exact GLe.comm (A3 h)) | (rename_i h;exact GLe.spawn (A3 h)) | (rename_i h;exact GLe.count (A3 h)) | (rename_i h;exact GLe.timer (A3 h)) | (rename_i h;exact GLe.alone (A3 h)) | (rename_i h;exact GLe.newcoro (A3 h)) | (rename_i h;exact GLe.coroswitch (A3 h)) | (rename_i h;exact GLe.collect (A3 h)) | (rename_i h;exact GLe.watch (A3 h)) | (rename_i h;exact GLe.trans (A3 h) (G9 ..)) | (rename_i h;exact GLe.trans (A3 h) (F6 ..)) | (rename_i h;exact GLe.trans (A3 h) (G5 ..))))
  | (refine GLe.ite (.go (Nat.le_refl _)) ?_;split<;>(first | exact GLe.ended | exact GLe.go (Nat.le_refl _) | (rename_i h;exact GLe.go (A3 h)) | (rename_i h;exact GLe.comm (A3 h)) | (rename_i h;exact GLe.spawn (A3 h)) | (rename_i h;exact GLe.count (A3 h)) | (rename_i h;exact GLe.timer (A3 h)) | (rename_i h;exact GLe.alone (A3 h)) | (rename_i h;exact GLe.newcoro (A3 h)) | (rename_i h;exact GLe.coroswitch (A3 h)) | (rename_i h;exact GLe.collect (A3 h)) | (rename_i h;exact GLe.watch (A3 h)) | (rename_i h;exact GLe.trans (A3 h) (G9 ..)) | (rename_i h;exact GLe.trans (A3 h) (F6 ..)) | (rename_i h;exact GLe.trans (A3 h) (G5 ..))))
  | (refine GLe.ite ?_ (.go (Nat.le_refl _));exact B1u ..)
theorem B0p (p:Program) (b:Bool) (g:Goroutine) (w:World) (l:Bool):GLe w (stepG p b g w l):=by
 unfold stepG
 dsimp only
 split
 ·exact B38 ..
 ·exact B1v ..
 ·exact B00 ..
theorem V3 {α:Type} {p:Program} {x:Sem α} {w w':World} {a:α} (h:x.run p w = .ok a w'):w.drawn≤w'.drawn:=A3 h
theorem A7g {rest:Rest} {cs:Array CommCase} {w w':World} (h:waitingAt rest cs w=some w'):w.drawn≤w'.drawn:=by
 unfold waitingAt at h
 repeat' first
  | (simp only [Option.some.injEq] at h;subst h;exact Nat.le_refl _)
  | (simp at h;done)
  | split at h
theorem A62 (p:Program) (rest:Rest) (gs:Array Goroutine) (i:Nat) (g:Goroutine) (cases:Array CommCase) (blocking:Bool)
  (shape:CommShape) (w:World) (m':Machine) (h:(communicate p rest gs i g cases blocking shape w).1 = .next m'):w.drawn≤m'.world.drawn:=by
 unfold communicate at h
 simp only [] at h
 split at h
 ·simp at h
 split at h
 ·split at h
  ·split at h
   ·rename_i hw
    simp only [Stepped.next.injEq] at h;subst h
    exact A7g hw
   ·simp at h
  ·simp only [Stepped.next.injEq] at h;subst h
   exact Nat.le_refl _
 ·split at h
  ·simp at h
  ·rename_i hr
   have h1:=V3 hr
   refine Nat.le_trans h1 ?_
   split at h
   ·split at h
    ·rename_i hp
     simp only [Stepped.next.injEq] at h;subst h
     exact A3 hp
    ·simp at h
   ·simp only [Stepped.next.injEq] at h;subst h
    exact Nat.le_refl _
   ·simp only [Stepped.next.injEq] at h;subst h
    exact Nat.le_refl _
   ·split at h
    ·simp only [Stepped.next.injEq] at h;subst h
     exact Nat.le_refl _
    ·split at h
     ·rename_i hp
      have:=V3 hp
      simp only [Stepped.next.injEq] at h;subst h
      exact this
     ·simp at h
   ·simp only [Stepped.next.injEq] at h;subst h
    exact Nat.le_refl _
   ·simp only [Stepped.next.injEq] at h;subst h
    exact Nat.le_refl _
   ·simp at h
theorem A8b (p:Program) (gs:Array Goroutine) (rest:Rest) (w:World) (m':Machine)
  (h:Go.look p gs rest w = .next m'):w.drawn≤m'.world.drawn:=by
 unfold Go.look at h
 simp only [] at h
 split at h
 ·split at h
  ·simp at h
  ·split at h
   ·simp at h
   ·split at h
    ·rename_i hr
     have:=V3 hr
     simp only [Stepped.next.injEq] at h;subst h
     exact this
    ·simp at h
    ·simp at h
 ·simp at h
theorem B0q (p:Program) (m m':Machine) (k:Nat) (h:serve p m k = .next m'):m.world.drawn≤m'.world.drawn:=by
 unfold serve at h
 simp only [] at h
 repeat' first
  | (simp at h;done)
  | (simp only [Stepped.next.injEq] at h;subst h;exact Nat.le_refl _)
  | split at h
theorem B0r (w:World) (c:Nat):(drain w c).2.drawn=w.drawn:=by
 unfold drain
 split<;>rfl
theorem A63 (m:Machine) (k:Nat) (t:Timer) (a b:Nat):(retime m k t a b).2.world.drawn=m.world.drawn:=by
 unfold retime
 cases t.chan with
 | none=>rfl
 | some c=>exact B0r m.world c
theorem A72 {m m':Machine} {var:Addr} {f:Nat→Timer→Value×Machine} {v:Value} {d:Nat} (hf:∀ k t,(f k t).2.world.drawn=d) (h:timerOp.named m var f = .ok (v,m')):m'.world.drawn=d:=by
 unfold timerOp.named at h
 split at h
 ·rename_i k _
  simp only [Except.ok.injEq] at h
  have:=hf k (m.rest.timers.getD k default)
  rw [h] at this
  exact this
 ·simp at h
theorem B01 {m m':Machine} {var:Addr} (h:timerOp.opened m var=some m'):m'.world.drawn=m.world.drawn:=by
 unfold timerOp.opened at h
 repeat' first
  | (simp only [Option.some.injEq] at h;subst h;rfl)
  | (simp at h;done)
  | split at h
theorem A9c (m m':Machine) (op:TimerOp) (v:Value) (h:timerOp m op = .ok (v,m')):m'.world.drawn=m.world.drawn:=by
 unfold timerOp at h
 split at h
 ·split at h
  ·cases h;rfl
  ·split at h
   ·split at h
    ·simp at h
    ·cases h;rfl
   ·simp at h
 ·exact A72 (fun k t=>A63 ..) h
 ·split at h
  ·rename_i ho
   have:=B01 ho
   rw [← this]
   exact A72 (fun k t=>A63 ..) h
  ·simp at h
 ·simp only [Except.ok.injEq,Prod.mk.injEq] at h
  rw [← h.2];rfl
theorem A3p {p:Program} {b l:Bool} {g:Goroutine} {w w':World} {s:GStep} (hs:stepG p b g w l=s) (h:gw s=some w'):w.drawn≤w'.drawn :=
 (B0p p b g w l).le w' (hs ▸ h)
theorem A73 {fr:Frame} {m:String} {w w':World} {g:Goroutine} {es:Array Event} (h:endThrow fr m w = .go g w' es):w.drawn≤w'.drawn:=(F6 fr m w).le w' (by rw [h];rfl)
theorem B1w (p:Program) (m m':Machine) (i:Nat) (b:Bool) (h:(runT p m i b).1 = .next m'):m.world.drawn≤m'.world.drawn:=by
 simp only [runT] at h
 revert h
 generalize m.gs.swapAt! _ _=gg
 generalize hs:stepG p _ gg.1 m.world b=s
 intro h
 cases s<;>simp only [] at h
 case comm=>exact Nat.le_trans (A3p hs rfl) (A62 _ _ _ _ _ _ _ _ _ _ h)
 case collect=>exact Nat.le_trans (A3p hs rfl) (A8b _ _ _ _ _ h)
 case coroswitch =>
  refine Nat.le_trans (A3p hs rfl) ?_
  split at h
  ·cases h;exact Nat.le_refl _
  ·split at h
   ·rename_i he;cases h;exact A73 he
   ·simp at h
  ·simp at h
 case timer =>
  refine Nat.le_trans (A3p hs rfl) ?_
  split at h
  ·rename_i ht
   cases h
   exact Nat.le_of_eq (A9c _ _ _ _ ht).symm
  ·split at h
   ·rename_i he;cases h;exact A73 he
   ·simp at h
  ·simp at h
  ·simp at h
 case count =>
  refine Nat.le_trans (A3p hs rfl) ?_
  split at h
  ·simp at h
  ·cases h;exact Nat.le_refl _
 case ended=>simp at h
 all_goals
  refine Nat.le_trans (A3p hs rfl) ?_
  cases h;exact Nat.le_refl _
def MoveLe (w:World):Move→Prop
 | .goroutine m _=>w.drawn≤m.world.drawn
 | .machine (.next m) _=>w.drawn≤m.world.drawn
 | _=>True
theorem tr (w w1:World) (x:Move) (h:w.drawn≤w1.drawn) (h1:MoveLe w1 x):MoveLe w x:=by
 cases x with
 | goroutine=>exact Nat.le_trans h h1
 | machine s ops=>cases s with
  | next m=>exact Nat.le_trans h h1
  | ended=>trivial
theorem A4n (p:Program) (m:Machine):MoveLe m.world (askOn p m):=by
 have hp:∀ m1:Machine,MoveLe m1.world (match (choose (.sched (runnable m.gs m.world.os.mono).length)).run p m1.world with
   | .halt _ w => .machine (.ended (.stuck "sched" "") w)
   | .ok k world =>
    if (runnable m.gs m.world.os.mono).length≤1 then .goroutine { m1 with world } ((runnable m.gs m.world.os.mono).getD k 0) else
    match (choose (.extern "sched.slice" 65536)).run p world with
    | .halt _ w => .machine (.ended (.stuck "sched.slice" "") w)
    | .ok n world => .goroutine { m1 with world,rest:={ m1.rest with slice:=if n=0 then none else some ((runnable m.gs m.world.os.mono).getD k 0,n) } } ((runnable m.gs m.world.os.mono).getD k 0)):=by
  intro m1
  split
  ·trivial
  ·rename_i h1
   have:=V3 h1
   split
   ·exact this
   ·split
    ·trivial
    ·rename_i h2
     exact Nat.le_trans this (V3 h2)
 unfold askOn
 dsimp only
 split
 ·trivial
 ·rename_i world hr
  have h1:=V3 hr
  refine tr _ world _ h1 ?_
  split
  ·cases hs:serve p { m with world:=world } _ with
   | next m2=>exact B0q _ _ _ _ hs
   | ended=>trivial
  ·split
   ·split
    ·exact Nat.le_refl _
    ·split
     ·exact Nat.le_refl _
     ·split<;>trivial
   ·split
    ·exact hp { m with world:=world }
    ·split
     ·trivial
     ·rename_i h2
      exact tr _ _ _ (V3 h2) (hp { m with world:=_ })
     ·rename_i h2
      have:=V3 h2
      exact this
     ·rename_i h2
      exact tr _ _ _ (V3 h2) (hp (Machine.advanceTo { m with world:=_ } _))
theorem B44 (p:Program) (m:Machine):MoveLe m.world (Go.ask p m):=by
 unfold Go.ask
 split
 ·split
  ·trivial
  ·rename_i h
   have h1:=V3 h
   cases hs:Go.look p m.gs m.rest _ with
   | next m2=>exact tr _ _ _ (Nat.le_trans h1 (A8b _ _ _ _ _ hs)) (A4n p m2)
   | ended=>trivial
  ·rename_i h
   exact tr _ _ _ (V3 h) (A4n p { m with world:=_ })
 ·exact A4n p m
theorem B5f (p:Program) (m:Machine):MoveLe m.world (Go.move p m):=by
 unfold Go.move
 split
 ·split
  ·exact Nat.le_refl _
  ·trivial
 ·split
  ·split
   ·exact Nat.le_refl _
   ·exact B44 p { m with rest:={ m.rest with slice:=none } }
  ·exact B44 p m
theorem B1x {p:Program} {m m':Machine} (h:step p m = .next m'):m.world.drawn≤m'.world.drawn:=by
 have h1:=B5f p m
 simp only [step,stepT] at h
 split at h
 ·rename_i hm
  rw [hm] at h1
  exact Nat.le_trans h1 (B1w p _ _ _ _ h)
 ·rename_i hm
  rw [hm] at h1
  simp only at h
  subst h
  exact h1
theorem A8c {p:Program}:∀ (n:Nat) {m m':Machine},runN p n m = .next m'→m.world.drawn≤m'.world.drawn
 | 0,m,m',h=>by simp only [runN,Stepped.next.injEq] at h;rw [h];exact Nat.le_refl _
 | n+1,m,m',h=>by
  simp only [runN] at h
  split at h
  ·rename_i hs
   exact Nat.le_trans (B1x hs) (A8c n h)
  ·rename_i e hne
   exact(hne _ h).elim
theorem Calls.drawn {P:Program} {f:FuncId} {args:Array Value} {w:World} {R:Ending→World→Prop} (h:Calls P f args w R) :
  Calls P f args w fun e w'=>R e w'∧(∀ v,e = .returned v→w.drawn≤w'.drawn):=by
 intro cs
 obtain⟨e,w',fr,hr,hc,hf,hl⟩:=h cs
 refine⟨e,w',fr,⟨hr,fun v hv => ?_⟩,hc,hf,hl⟩
 subst hv
 obtain⟨n,hn⟩:=hc
 exact A8c n hn
end Go.Vc
