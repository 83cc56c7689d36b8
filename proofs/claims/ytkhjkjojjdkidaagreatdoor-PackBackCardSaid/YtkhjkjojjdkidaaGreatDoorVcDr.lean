/- A run of the machine only adds to what was drawn. -/
import Derived.Lone
import Derived.Calls
namespace Go.Vc
open Go
theorem A7c {α:Type}:∀ (x:Ask α) (w:World),w.drawn≤(w.ask x).2.drawn
 | .done a,w=>by simp [World.ask]
 | .ask what range k,w=>by
  unfold World.ask
  simp only
  split
  ·exact A7c _ w
  ·have:=A7c (k ((Question.extern what range).cut (w.tape w.drawn (Question.extern what range)))) { w with drawn:=w.drawn+1 }
   exact Nat.le_trans (Nat.le_succ _) this
theorem B4p (w:World) (c:Sys):w.drawn≤(w.sys c).2.drawn:=by
 have:=A7c (Kernel.perform c w.os) w
 unfold World.sys
 split
 ·exact Nat.le_refl _
 ·rename_i h
  rw [h] at this
  exact this
theorem A8t {ε α β:Type} {x:Except ε α} {f:α→Except ε β} {b:β} (h:(x >>= f) = .ok b):∃ a,x = .ok a∧f a = .ok b:=by
 cases x with
 | error e=>cases h
 | ok a=>exact⟨a,rfl,h⟩
theorem A8c {p:Program} {w w':World} {at_ k:Addr} {u:TypeId} {v:Value} {atomic:Bool} {l:List Addr} (h:w.viewStore p at_ u k v atomic = .ok (w',l)):w'.drawn=w.drawn:=by
 unfold World.viewStore at h
 dsimp only at h
 split at h
 ·obtain⟨_,h1,_⟩:=A8t h;cases h1
 ·obtain⟨⟨c,e,frozen,first,like,cells⟩,_,h⟩:=A8t h
  dsimp only at h
  split at h
  ·split at h
   ·obtain⟨_,h1,_⟩:=A8t h;cases h1
   ·obtain⟨_,_,h⟩:=A8t h
    cases h
    rfl
  ·cases h
theorem A94 {p:Program} {w w':World} {a:Addr} {v:Value} {atomic:Bool} {l:List Addr} (h:w.farStore p a v atomic = .ok (w',l)):w'.drawn=w.drawn:=by
 unfold World.farStore at h
 split at h
 ·split at h
  ·rename_i r hr
   cases h
   exact A8c hr
  ·cases h
 ·cases h
def rw {α:Type}:Result α→World
 | .ok _ w=>w
 | .halt _ w=>w
theorem Sem.rw_drawn {α:Type} {p:Program}:∀ (x:Sem α) (w:World),w.drawn≤(rw (x.run p w)).drawn:=by
 intro x
 induction x with
 | pure a=>intro w;exact Nat.le_refl _
 | load m a k ih =>
  intro w
  simp only [Sem.run]
  split
  ·exact ih _ _
  ·split
   ·exact ih _ _
   ·exact Nat.le_refl _
 | store m a v k ih =>
  intro w
  have key:w.drawn≤(rw (match w.cell? a with
   | some _=>if w.frozen? a then (.halt (.unsupported (.unsafePointer "a write to bytes that a string shares")) w:Result α) else k.run p (w.setCell a v)
   | none=>match w.farStore p a v (m==Mode.atomic) with
    | .ok (w,_)=>k.run p w
    | .error h => .halt h w)).drawn:=by
   split
   ·split
    ·exact Nat.le_refl _
    ·exact ih (w.setCell a v)
   ·split
    ·rename_i hf
     have:=A94 hf
     have:=ih (by assumption)
     omega
    ·exact Nat.le_refl _
  cases v<;>first | exact key | (simp [Sem.run,rw];done)
 | new o k ih =>
  intro w
  exact ih w.heap.size { w with heap:=w.heap.push o }
 | shape r k ih=>intro w;exact ih _ _
 | freeze a n k ih =>
  intro w
  have h1:=ih (w.freeze a n)
  have h2:(w.freeze a n).drawn=w.drawn:=by unfold World.freeze;split<;>rfl
  rw [h2] at h1
  exact h1
 | frozen a k ih=>intro w;exact ih _ _
 | getObj r k ih =>
  intro w
  simp only [Sem.run]
  split
  ·exact Nat.le_refl _
  ·exact ih _ _
  ·exact Nat.le_refl _
 | setObj r o k ih =>
  intro w
  simp only [Sem.run]
  split
  ·exact Nat.le_refl _
  ·exact ih { w with heap:=w.heap.setIfInBounds r o }
  ·exact Nat.le_refl _
 | choose q k ih =>
  intro w
  simp only [Sem.run]
  split
  ·exact ih _ _
  ·have:=ih (q.cut (w.tape w.drawn q)) { w with drawn:=w.drawn+1 }
   exact Nat.le_trans (Nat.le_succ _) this
 | sys c k ih =>
  intro w
  exact Nat.le_trans (B4p w c) (ih _ _)
 | program k ih=>intro w;exact ih _ _
 | mark m k ih=>intro w;exact ih w
 | halt h=>intro w;exact Nat.le_refl _
def gw:GStep→Option World
 | .go _ w _ | .comm _ _ _ _ w _ | .spawn _ _ w _ | .count _ w _ | .timer _ _ w _ | .alone _ _ w _ | .newcoro _ _ _ w _ | .coroswitch _ _ _ w _ | .collect _ w _ | .watch _ w _=>some w
 | .ended .. => none
structure GLe (w:World) (s:GStep):Prop where
 le:∀ w',gw s=some w'→w.drawn≤w'.drawn
theorem GLe.after {w:World} {es:Array Event} {s:GStep} (h:GLe w s):GLe w (GStep.after es s):=by
 refine⟨fun w' hw => ?_⟩
 cases s<;>exact h.le w' hw
theorem GLe.ended {w w1:World} {o:Outcome} {es:Array Event}:GLe w (.ended o w1 es):=⟨fun _ h=>by cases h⟩
theorem GLe.trans {w w1:World} {s:GStep} (h:w.drawn≤w1.drawn) (h1:GLe w1 s):GLe w s:=⟨fun w' hw=>Nat.le_trans h (h1.le w' hw)⟩
theorem GLe.ite {w:World} {c:Prop} [Decidable c] {a b:GStep} (ha:GLe w a) (hb:GLe w b):GLe w (if c then a else b):=by split<;>assumption
theorem GLe.go {w w1:World} {g:Goroutine} {es:Array Event} (h:w.drawn≤w1.drawn):GLe w (.go g w1 es):=⟨fun _ e=>by cases e;exact h⟩
theorem GLe.comm {w w1:World} {g:Goroutine} {cs:Array CommCase} {b:Bool} {sh:CommShape} {es:Array Event} (h:w.drawn≤w1.drawn):GLe w (.comm g cs b sh w1 es):=⟨fun _ e=>by cases e;exact h⟩
theorem GLe.spawn {w w1:World} {g g':Goroutine} {es:Array Event} (h:w.drawn≤w1.drawn):GLe w (.spawn g g' w1 es):=⟨fun _ e=>by cases e;exact h⟩
theorem GLe.count {w w1:World} {g:Goroutine} {es:Array Event} (h:w.drawn≤w1.drawn):GLe w (.count g w1 es):=⟨fun _ e=>by cases e;exact h⟩
theorem GLe.timer {w w1:World} {g:Goroutine} {op:TimerOp} {es:Array Event} (h:w.drawn≤w1.drawn):GLe w (.timer g op w1 es):=⟨fun _ e=>by cases e;exact h⟩
theorem GLe.alone {w w1:World} {g:Goroutine} {b:Bool} {es:Array Event} (h:w.drawn≤w1.drawn):GLe w (.alone g b w1 es):=⟨fun _ e=>by cases e;exact h⟩
theorem GLe.newcoro {w w1:World} {g:Goroutine} {c:Nat} {d:Deferred} {es:Array Event} (h:w.drawn≤w1.drawn):GLe w (.newcoro g c d w1 es):=⟨fun _ e=>by cases e;exact h⟩
theorem GLe.coroswitch {w w1:World} {g:Goroutine} {c:Nat} {d:Bool} {es:Array Event} (h:w.drawn≤w1.drawn):GLe w (.coroswitch g c d w1 es):=⟨fun _ e=>by cases e;exact h⟩
theorem GLe.collect {w w1:World} {g:Goroutine} {es:Array Event} (h:w.drawn≤w1.drawn):GLe w (.collect g w1 es):=⟨fun _ e=>by cases e;exact h⟩
theorem GLe.watch {w w1:World} {g:Goroutine} {es:Array Event} (h:w.drawn≤w1.drawn):GLe w (.watch g w1 es):=⟨fun _ e=>by cases e;exact h⟩
theorem A7x (fr:Frame) (l:List ByteArray) (m:String) (b:Bool) (w:World):GLe w (dieOf fr l m b w):=.go (Nat.le_refl _)
theorem G3 (fr:Frame) (m:String) (w:World):GLe w (endThrow fr m w):=A7x ..
theorem A5 {α:Type} {p:Program} {x:Sem α} {w:World} {r:Result α} (h:x.run p w=r):w.drawn≤(rw r).drawn:=h ▸ Sem.rw_drawn x w
theorem B0b (w:World) (fd:Nat) (t:ByteArray) (o:Outcome):GLe w (endWith w fd t o):=by
 unfold endWith
 dsimp only
 repeat' first
  | exact .ended
  | split
theorem A3n (p:Program) (fr:Frame) (v:Value) (w:World):GLe w (endPrinting p fr v w):=by
 unfold endPrinting
 dsimp only
 repeat' first
  | exact .ended
  | exact G3 ..
  | split
theorem H6 (p:Program) (fr:Frame) (cs:List Frame) (d:Option Dying) (m:String) (w:World):GLe w (endFatal p fr cs d m w):=by
 unfold endFatal
 dsimp only
 split
 ·rename_i h
  exact .trans (A5 h) (A7x ..)
 ·exact .ended
 ·exact .ended
theorem H3 (p:Program) (b:Bool) (fr:Frame) (cs:List Frame) (d:Option Dying) (v:Value) (w:World):GLe w (doReturn p b fr cs d v w):=by
 unfold doReturn
 repeat' first
  | (first | exact GLe.ended | exact GLe.go (Nat.le_refl _))
  | split
theorem B0c (p:Program) (fr:Frame) (d:Dying) (f:Fatal) (w:World):GLe w (writeOn p fr d f w):=by
 unfold writeOn
 dsimp only
 split
 ·exact .ended
 ·simp only [Sem.runT_eq]
  split
  all_goals first
   | exact .ended
   | (rename_i h;rw [Prod.mk.injEq] at h;exact .go (A5 h.1))
theorem B4q (p:Program) (fr:Frame) (d:Dying) (w:World):GLe w (die p fr d w):=by
 unfold die
 dsimp only
 split
 ·exact B0c ..
 ·split
  ·split
   ·(first | exact GLe.ended | exact GLe.go (Nat.le_refl _))
   ·exact B0b ..
  ·split
   ·(first | exact GLe.ended | exact GLe.go (Nat.le_refl _))
   ·split
    ·rename_i h;exact .go (A5 h)
    ·(first | exact GLe.ended | exact GLe.go (Nat.le_refl _))
   ·simp only [Sem.runT_eq]
    refine .after ?_
    split
    all_goals first
     | exact .ended
     | (rename_i h;exact .go (A5 h))
     | (rename_i h;exact .trans (A5 h) (A3n ..))
   ·(first | exact GLe.ended | exact GLe.go (Nat.le_refl _))
theorem A6c (p:Program) (fr:Frame) (cs:List Frame) (dy:Option Dying) (d:Deferred) (w:World):GLe w (callDeferred p fr cs dy d w):=by
 unfold callDeferred
 dsimp only
 refine .ite .ended ?_
 simp only [Sem.runT_eq]
 refine .after ?_
 split
 all_goals first
  | (first | exact GLe.ended | exact GLe.go (Nat.le_refl _) | (rename_i h;exact GLe.go (A5 h)) | (rename_i h;exact GLe.comm (A5 h)) | (rename_i h;exact GLe.spawn (A5 h)) | (rename_i h;exact GLe.count (A5 h)) | (rename_i h;exact GLe.timer (A5 h)) | (rename_i h;exact GLe.alone (A5 h)) | (rename_i h;exact GLe.newcoro (A5 h)) | (rename_i h;exact GLe.coroswitch (A5 h)) | (rename_i h;exact GLe.collect (A5 h)) | (rename_i h;exact GLe.watch (A5 h)) | (rename_i h;exact GLe.trans (A5 h) (H6 ..)) | (rename_i h;exact GLe.trans (A5 h) (G3 ..)) | (rename_i h;exact GLe.trans (A5 h) (H3 ..)))
  | (rename_i h;have h':=A5 h;split<;>exact GLe.go h')
theorem B18 (p:Program) (b:Bool) (fr:Frame) (cs:List Frame) (dy:Option Dying) (w:World):GLe w (unwind p b fr cs dy w):=by
 unfold unwind
 dsimp only
 simp only [Sem.runT_eq]
 split
 ·refine .after ?_
  split<;>(first | exact GLe.ended | exact GLe.go (Nat.le_refl _) | (rename_i h;exact GLe.go (A5 h)) | (rename_i h;exact GLe.comm (A5 h)) | (rename_i h;exact GLe.spawn (A5 h)) | (rename_i h;exact GLe.count (A5 h)) | (rename_i h;exact GLe.timer (A5 h)) | (rename_i h;exact GLe.alone (A5 h)) | (rename_i h;exact GLe.newcoro (A5 h)) | (rename_i h;exact GLe.coroswitch (A5 h)) | (rename_i h;exact GLe.collect (A5 h)) | (rename_i h;exact GLe.watch (A5 h)) | (rename_i h;exact GLe.trans (A5 h) (H6 ..)) | (rename_i h;exact GLe.trans (A5 h) (G3 ..)) | (rename_i h;exact GLe.trans (A5 h) (H3 ..)))
 ·exact A6c ..
 ·split
  ·exact .ended
  ·split
   ·exact .ended
   ·split
    ·(first | exact GLe.ended | exact GLe.go (Nat.le_refl _))
    ·split
     ·split
      ·(first | exact GLe.ended | exact GLe.go (Nat.le_refl _))
      ·split<;>(first | exact GLe.ended | exact GLe.go (Nat.le_refl _) | (rename_i h;exact GLe.go (A5 h)) | (rename_i h;exact GLe.comm (A5 h)) | (rename_i h;exact GLe.spawn (A5 h)) | (rename_i h;exact GLe.count (A5 h)) | (rename_i h;exact GLe.timer (A5 h)) | (rename_i h;exact GLe.alone (A5 h)) | (rename_i h;exact GLe.newcoro (A5 h)) | (rename_i h;exact GLe.coroswitch (A5 h)) | (rename_i h;exact GLe.collect (A5 h)) | (rename_i h;exact GLe.watch (A5 h)) | (rename_i h;exact GLe.trans (A5 h) (H6 ..)) | (rename_i h;exact GLe.trans (A5 h) (G3 ..)) | (rename_i h;exact GLe.trans (A5 h) (H3 ..)))
     ·split
      ·exact A3n ..
      ·exact .ended
  ·split
   ·exact H3 ..
   ·refine .after ?_
    split<;>(first | exact GLe.ended | exact GLe.go (Nat.le_refl _) | (rename_i h;exact GLe.go (A5 h)) | (rename_i h;exact GLe.comm (A5 h)) | (rename_i h;exact GLe.spawn (A5 h)) | (rename_i h;exact GLe.count (A5 h)) | (rename_i h;exact GLe.timer (A5 h)) | (rename_i h;exact GLe.alone (A5 h)) | (rename_i h;exact GLe.newcoro (A5 h)) | (rename_i h;exact GLe.coroswitch (A5 h)) | (rename_i h;exact GLe.collect (A5 h)) | (rename_i h;exact GLe.watch (A5 h)) | (rename_i h;exact GLe.trans (A5 h) (H6 ..)) | (rename_i h;exact GLe.trans (A5 h) (G3 ..)) | (rename_i h;exact GLe.trans (A5 h) (H3 ..)))
theorem B1y (p:Program) (fr:Frame) (cs:List Frame) (dy:Option Dying) (g:Nat) (w:World):GLe w (early p fr cs dy g w):=by
 have hn:∀ w1:World,w.drawn≤w1.drawn→GLe w (match w1.heap[g]? with
  | some (.pending c elem) => .go { frame:=fr,callers:=cs,status:=.running,dying:=dy } { w1 with heap:=w1.heap.setIfInBounds g (.cells c elem) }
  | _ => .ended (.stuck "early: the variable does not wait" (fr.pos p)) w1):=by
  intro w1 h
  split
  ·exact .go h
  ·exact .ended
 unfold early
 dsimp only
 repeat' first
  | exact hn _ (Nat.le_refl _)
  | exact GLe.ended
  | exact GLe.go (Nat.le_refl _)
  | (rename_i h;exact hn _ (A5 h))
  | (rename_i h _;exact GLe.go (A5 h))
  | (rename_i h;exact GLe.go (A5 h))
  | split
theorem A3o (p:Program) (fr:Frame) (cs:List Frame) (dy:Option Dying) (s:Sem Next) (w:World) (b:Bool):GLe w (stepG.apply p b fr cs dy s w):=by
 unfold stepG.apply
 dsimp only
 simp only [Sem.runT_eq]
 refine .after ?_
 have e:(if b=true then (s.run p w,s.events p w #[]) else (s.run p w,#[])).1=s.run p w:=by split<;>rfl
 rw [e]
 split
 all_goals first
  | (first | exact GLe.ended | exact GLe.go (Nat.le_refl _) | (rename_i h;exact GLe.go (A5 h)) | (rename_i h;exact GLe.comm (A5 h)) | (rename_i h;exact GLe.spawn (A5 h)) | (rename_i h;exact GLe.count (A5 h)) | (rename_i h;exact GLe.timer (A5 h)) | (rename_i h;exact GLe.alone (A5 h)) | (rename_i h;exact GLe.newcoro (A5 h)) | (rename_i h;exact GLe.coroswitch (A5 h)) | (rename_i h;exact GLe.collect (A5 h)) | (rename_i h;exact GLe.watch (A5 h)) | (rename_i h;exact GLe.trans (A5 h) (H6 ..)) | (rename_i h;exact GLe.trans (A5 h) (G3 ..)) | (rename_i h;exact GLe.trans (A5 h) (H3 ..)))
  | (rename_i h;exact GLe.trans (A5 h) (B1y ..))
  | (rename_i h;have h':=A5 h;split<;>exact GLe.go h')
  | (rename_i h;have h':=A5 h;(repeat' (first | exact GLe.trans h' (G3 ..) | exact GLe.spawn h' | split)))
theorem A95 {α:Type} {w:World} {o:Option α} {s:GStep} {f:α→GStep} (h:GLe w s) (hf:∀ a,GLe w (f a)):GLe w (o.elim s f):=by
 cases o with
 | none=>exact h
 | some a=>exact hf a
theorem B3a (p:Program) (l:Bool) (fr:Frame) (cs:List Frame) (dy:Option Dying) (w:World):GLe w (stepG.oper p l fr cs dy w):=by
 unfold stepG.oper
 split
 ·(first | exact GLe.ended | exact GLe.go (Nat.le_refl _))
 ·split<;>exact A3o ..
theorem B3b (p:Program) (b:Bool) (fr:Frame) (cs:List Frame) (dy:Option Dying) (w:World) (l:Bool):GLe w (stepG.exec p b l fr cs dy w):=by
 unfold stepG.exec
 dsimp only
 simp only [Sem.runT_eq]
 split
 all_goals first
  | (first | exact GLe.ended | exact GLe.go (Nat.le_refl _))
  | exact A3o ..
  | (split;exact GLe.ite (.go (Nat.le_refl _)) .ended;refine GLe.after ?_;split<;>(first | exact GLe.ended | exact GLe.go (Nat.le_refl _) | (rename_i h;exact GLe.go (A5 h)) | (rename_i h;exact GLe.comm (A5 h)) | (rename_i h;exact GLe.spawn (A5 h)) | (rename_i h;exact GLe.count (A5 h)) | (rename_i h;exact GLe.timer (A5 h)) | (rename_i h;exact GLe.alone (A5 h)) | (rename_i h;exact GLe.newcoro (A5 h)) | (rename_i h;exact GLe.coroswitch (A5 h)) | (rename_i h;exact GLe.collect (A5 h)) | (rename_i h;exact GLe.watch (A5 h)) | (rename_i h;exact GLe.trans (A5 h) (H6 ..)) | (rename_i h;exact GLe.trans (A5 h) (G3 ..)) | (rename_i h;exact GLe.trans (A5 h) (H3 ..))))
  | exact A95 (by(split;exact GLe.ite (.go (Nat.le_refl _)) .ended;refine GLe.after ?_;split<;>(first | exact GLe.ended | exact GLe.go (Nat.le_refl _) | (rename_i h;exact GLe.go (A5 h)) | (rename_i h;exact GLe.comm (A5 h)) | (rename_i h;exact GLe.spawn (A5 h)) | (rename_i h;exact GLe.count (A5 h)) | (rename_i h;exact GLe.timer (A5 h)) | (rename_i h;exact GLe.alone (A5 h)) | (rename_i h;exact GLe.newcoro (A5 h)) | (rename_i h;exact GLe.coroswitch (A5 h)) | (rename_i h;exact GLe.collect (A5 h)) | (rename_i h;exact GLe.watch (A5 h)) | (rename_i h;exact GLe.trans (A5 h) (H6 ..)) | (rename_i h;exact GLe.trans (A5 h) (G3 ..)) | (rename_i h;exact GLe.trans (A5 h) (H3 ..))))) fun _ => .go (Nat.le_refl _)
  | exact A95 .ended fun _=>A3o ..
  | (refine GLe.after ?_;split<;>first | (first | exact GLe.ended | exact GLe.go (Nat.le_refl _) | (rename_i h;exact GLe.go (A5 h)) | (rename_i h;exact GLe.comm (A5 h)) | (rename_i h;exact GLe.spawn (A5 h)) | (rename_i h;exact GLe.count (A5 h)) | (rename_i h;exact GLe.timer (A5 h)) | (rename_i h;exact GLe.alone (A5 h)) | (rename_i h;exact GLe.newcoro (A5 h)) | (rename_i h;exact GLe.coroswitch (A5 h)) | (rename_i h;exact GLe.collect (A5 h)) | (rename_i h;exact GLe.watch (A5 h)) | (rename_i h;exact GLe.trans (A5 h) (H6 ..)) | (rename_i h;exact GLe.trans (A5 h) (G3 ..)) | (rename_i h;exact GLe.trans (A5 h) (H3 ..))) | (rename_i h;exact GLe.trans (A5 h) (A3o ..)))
  | (split<;>(first | exact GLe.ended | exact GLe.go (Nat.le_refl _) | (rename_i h;exact GLe.go (A5 h)) | (rename_i h;exact GLe.comm (A5 h)) | (rename_i h;exact GLe.spawn (A5 h)) | (rename_i h;exact GLe.count (A5 h)) | (rename_i h;exact GLe.timer (A5 h)) | (rename_i h;exact GLe.alone (A5 h)) | (rename_i h;exact GLe.newcoro (A5 h)) | (rename_i h;exact GLe.coroswitch (A5 h)) | (rename_i h;exact GLe.collect (A5 h)) | (rename_i h;exact GLe.watch (A5 h)) | (rename_i h;exact GLe.trans (A5 h) (H6 ..)) | (rename_i h;exact GLe.trans (A5 h) (G3 ..)) | (rename_i h;exact GLe.trans (A5 h) (H3 ..))))
  | (split;(first | exact GLe.ended | exact GLe.go (Nat.le_refl _));split<;>(first | exact GLe.ended | exact GLe.go (Nat.le_refl _) | (rename_i h;exact GLe.go (A5 h)) | (rename_i h;exact GLe.comm (A5 h)) | (rename_i h;exact GLe.spawn (A5 h)) | (rename_i h;exact GLe.count (A5 h)) | (rename_i h;exact GLe.timer (A5 h)) | (rename_i h;exact GLe.alone (A5 h)) | (rename_i h;exact GLe.newcoro (A5 h)) | (rename_i h;exact GLe.coroswitch (A5 h)) | (rename_i h;exact GLe.collect (A5 h)) | (rename_i h;exact GLe.watch (A5 h)) | (rename_i h;exact GLe.trans (A5 h) (H6 ..)) | (rename_i h;exact GLe.trans (A5 h) (G3 ..)) | (rename_i h;exact GLe.trans (A5 h) (H3 ..))))
  | (refine GLe.ite (.go (Nat.le_refl _)) ?_;split<;>(first | exact GLe.ended | exact GLe.go (Nat.le_refl _) | (rename_i h;exact GLe.go (A5 h)) | (rename_i h;exact GLe.comm (A5 h)) | (rename_i h;exact GLe.spawn (A5 h)) | (rename_i h;exact GLe.count (A5 h)) | (rename_i h;exact GLe.timer (A5 h)) | (rename_i h;exact GLe.alone (A5 h)) | (rename_i h;exact GLe.newcoro (A5 h)) | (rename_i h;exact GLe.coroswitch (A5 h)) | (rename_i h;exact GLe.collect (A5 h)) | (rename_i h;exact GLe.watch (A5 h)) | (rename_i h;exact GLe.trans (A5 h) (H6 ..)) | (rename_i h;exact GLe.trans (A5 h) (G3 ..)) | (rename_i h;exact GLe.trans (A5 h) (H3 ..))))
  | (refine GLe.ite ?_ (.go (Nat.le_refl _));exact B3a ..)
theorem B1z (p:Program) (b:Bool) (g:Goroutine) (w:World) (l:Bool):GLe w (stepG p b g w l):=by
 unfold stepG
 dsimp only
 split
 ·exact B4q ..
 ·exact B3b ..
 ·exact B18 ..
theorem X3 {α:Type} {p:Program} {x:Sem α} {w w':World} {a:α} (h:x.run p w = .ok a w'):w.drawn≤w'.drawn:=A5 h
theorem A8d {rest:Rest} {cs:Array CommCase} {w w':World} (h:waitingAt rest cs w=some w'):w.drawn≤w'.drawn:=by
 unfold waitingAt at h
 repeat' first
  | (simp only [Option.some.injEq] at h;subst h;exact Nat.le_refl _)
  | (simp at h;done)
  | split at h
theorem A6s (p:Program) (rest:Rest) (gs:Array Goroutine) (i:Nat) (g:Goroutine) (cases:Array CommCase) (blocking:Bool)
  (shape:CommShape) (w:World) (m':Machine) (h:(communicate p rest gs i g cases blocking shape w).1 = .next m'):w.drawn≤m'.world.drawn:=by
 unfold communicate at h
 simp only [] at h
 split at h
 ·simp at h
 split at h
 ·split at h
  ·split at h
   ·rename_i hw
    simp only [Stepped.next.injEq] at h;subst h
    exact A8d hw
   ·simp at h
  ·simp only [Stepped.next.injEq] at h;subst h
   exact Nat.le_refl _
 ·split at h
  ·simp at h
  ·rename_i hr
   have h1:=X3 hr
   refine Nat.le_trans h1 ?_
   split at h
   ·split at h
    ·rename_i hp
     simp only [Stepped.next.injEq] at h;subst h
     exact A5 hp
    ·simp at h
   ·simp only [Stepped.next.injEq] at h;subst h
    exact Nat.le_refl _
   ·simp only [Stepped.next.injEq] at h;subst h
    exact Nat.le_refl _
   ·split at h
    ·simp only [Stepped.next.injEq] at h;subst h
     exact Nat.le_refl _
    ·split at h
     ·rename_i hp
      have:=X3 hp
      simp only [Stepped.next.injEq] at h;subst h
      exact this
     ·simp at h
   ·simp only [Stepped.next.injEq] at h;subst h
    exact Nat.le_refl _
   ·simp only [Stepped.next.injEq] at h;subst h
    exact Nat.le_refl _
   ·simp at h
theorem A96 (p:Program) (gs:Array Goroutine) (rest:Rest) (w:World) (m':Machine)
  (h:Go.look p gs rest w = .next m'):w.drawn≤m'.world.drawn:=by
 unfold Go.look at h
 simp only [] at h
 split at h
 ·split at h
  ·simp at h
  ·split at h
   ·simp at h
   ·split at h
    ·rename_i hr
     have:=X3 hr
     simp only [Stepped.next.injEq] at h;subst h
     exact this
    ·simp at h
    ·simp at h
 ·simp at h
theorem B20 (p:Program) (m m':Machine) (k:Nat) (h:serve p m k = .next m'):m.world.drawn≤m'.world.drawn:=by
 unfold serve at h
 simp only [] at h
 repeat' first
  | (simp at h;done)
  | (simp only [Stepped.next.injEq] at h;subst h;exact Nat.le_refl _)
  | split at h
theorem B21 (w:World) (c:Nat):(drain w c).2.drawn=w.drawn:=by
 unfold drain
 split<;>rfl
theorem A6t (m:Machine) (k:Nat) (t:Timer) (a b:Nat):(retime m k t a b).2.world.drawn=m.world.drawn:=by
 unfold retime
 cases t.chan with
 | none=>rfl
 | some c=>exact B21 m.world c
theorem A7y {m m':Machine} {var:Addr} {f:Nat→Timer→Value×Machine} {v:Value} {d:Nat} (hf:∀ k t,(f k t).2.world.drawn=d) (h:timerOp.named m var f = .ok (v,m')):m'.world.drawn=d:=by
 unfold timerOp.named at h
 split at h
 ·rename_i k _
  simp only [Except.ok.injEq] at h
  have:=hf k (m.rest.timers.getD k default)
  rw [h] at this
  exact this
 ·simp at h
theorem B19 {m m':Machine} {var:Addr} (h:timerOp.opened m var=some m'):m'.world.drawn=m.world.drawn:=by
 unfold timerOp.opened at h
 repeat' first
  | (simp only [Option.some.injEq] at h;subst h;rfl)
  | (simp at h;done)
  | split at h
theorem B0d (m m':Machine) (op:TimerOp) (v:Value) (h:timerOp m op = .ok (v,m')):m'.world.drawn=m.world.drawn:=by
 unfold timerOp at h
 split at h
 ·split at h
  ·cases h;rfl
  ·split at h
   ·split at h
    ·simp at h
    ·cases h;rfl
   ·simp at h
 ·exact A7y (fun k t=>A6t ..) h
 ·split at h
  ·rename_i ho
   have:=B19 ho
   rw [← this]
   exact A7y (fun k t=>A6t ..) h
  ·simp at h
 ·simp only [Except.ok.injEq,Prod.mk.injEq] at h
  rw [← h.2];rfl
theorem A48 {p:Program} {b l:Bool} {g:Goroutine} {w w':World} {s:GStep} (hs:stepG p b g w l=s) (h:gw s=some w'):w.drawn≤w'.drawn :=
 (B1z p b g w l).le w' (hs ▸ h)
theorem A7z {fr:Frame} {m:String} {w w':World} {g:Goroutine} {es:Array Event} (h:endThrow fr m w = .go g w' es):w.drawn≤w'.drawn:=(G3 fr m w).le w' (by rw [h];rfl)
theorem B3c (p:Program) (m m':Machine) (i:Nat) (b:Bool) (h:(runT p m i b).1 = .next m'):m.world.drawn≤m'.world.drawn:=by
 simp only [runT] at h
 revert h
 generalize m.gs.swapAt! _ _=gg
 generalize hs:stepG p _ gg.1 m.world b=s
 intro h
 cases s<;>simp only [] at h
 case comm=>exact Nat.le_trans (A48 hs rfl) (A6s _ _ _ _ _ _ _ _ _ _ h)
 case collect=>exact Nat.le_trans (A48 hs rfl) (A96 _ _ _ _ _ h)
 case coroswitch =>
  refine Nat.le_trans (A48 hs rfl) ?_
  split at h
  ·cases h;exact Nat.le_refl _
  ·split at h
   ·rename_i he;cases h;exact A7z he
   ·simp at h
  ·simp at h
 case timer =>
  refine Nat.le_trans (A48 hs rfl) ?_
  split at h
  ·rename_i ht
   cases h
   exact Nat.le_of_eq (B0d _ _ _ _ ht).symm
  ·split at h
   ·rename_i he;cases h;exact A7z he
   ·simp at h
  ·simp at h
  ·simp at h
 case count =>
  refine Nat.le_trans (A48 hs rfl) ?_
  split at h
  ·simp at h
  ·cases h;exact Nat.le_refl _
 case ended=>simp at h
 all_goals
  refine Nat.le_trans (A48 hs rfl) ?_
  cases h;exact Nat.le_refl _
def MoveLe (w:World):Move→Prop
 | .goroutine m _=>w.drawn≤m.world.drawn
 | .machine (.next m) _=>w.drawn≤m.world.drawn
 | _=>True
theorem tr (w w1:World) (x:Move) (h:w.drawn≤w1.drawn) (h1:MoveLe w1 x):MoveLe w x:=by
 cases x with
 | goroutine=>exact Nat.le_trans h h1
 | machine s ops=>cases s with
  | next m=>exact Nat.le_trans h h1
  | ended=>trivial
theorem A54 (p:Program) (m:Machine):MoveLe m.world (askOn p m):=by
 have hp:∀ m1:Machine,MoveLe m1.world (match (choose (.sched (runnable m.gs m.world.os.mono).length)).run p m1.world with
   | .halt _ w => .machine (.ended (.stuck "sched" "") w)
   | .ok k world =>
    if (runnable m.gs m.world.os.mono).length≤1 then .goroutine { m1 with world } ((runnable m.gs m.world.os.mono).getD k 0) else
    match (choose (.extern "sched.slice" 65536)).run p world with
    | .halt _ w => .machine (.ended (.stuck "sched.slice" "") w)
    | .ok n world => .goroutine { m1 with world,rest:={ m1.rest with slice:=if n=0 then none else some ((runnable m.gs m.world.os.mono).getD k 0,n) } } ((runnable m.gs m.world.os.mono).getD k 0)):=by
  intro m1
  split
  ·trivial
  ·rename_i h1
   have:=X3 h1
   split
   ·exact this
   ·split
    ·trivial
    ·rename_i h2
     exact Nat.le_trans this (X3 h2)
 unfold askOn
 dsimp only
 split
 ·trivial
 ·rename_i world hr
  have h1:=X3 hr
  refine tr _ world _ h1 ?_
  split
  ·cases hs:serve p { m with world:=world } _ with
   | next m2=>exact B20 _ _ _ _ hs
   | ended=>trivial
  ·split
   ·split
    ·exact Nat.le_refl _
    ·split
     ·exact Nat.le_refl _
     ·split<;>trivial
   ·split
    ·exact hp { m with world:=world }
    ·split
     ·trivial
     ·rename_i h2
      exact tr _ _ _ (X3 h2) (hp { m with world:=_ })
     ·rename_i h2
      have:=X3 h2
      exact this
     ·rename_i h2
      exact tr _ _ _ (X3 h2) (hp (Machine.advanceTo { m with world:=_ } _))
theorem B5p (p:Program) (m:Machine):MoveLe m.world (Go.ask p m):=by
 unfold Go.ask
 split
 ·split
  ·trivial
  ·rename_i h
   have h1:=X3 h
   cases hs:Go.look p m.gs m.rest _ with
   | next m2=>exact tr _ _ _ (Nat.le_trans h1 (A96 _ _ _ _ _ hs)) (A54 p m2)
   | ended=>trivial
  ·rename_i h
   exact tr _ _ _ (X3 h) (A54 p { m with world:=_ })
 ·exact A54 p m
theorem B73 (p:Program) (m:Machine):MoveLe m.world (Go.move p m):=by
 unfold Go.move
 split
 ·split
  ·exact Nat.le_refl _
  ·trivial
 ·split
  ·split
   ·exact Nat.le_refl _
   ·exact B5p p { m with rest:={ m.rest with slice:=none } }
  ·exact B5p p m
theorem B3d {p:Program} {m m':Machine} (h:step p m = .next m'):m.world.drawn≤m'.world.drawn:=by
 have h1:=B73 p m
 simp only [step,stepT] at h
 split at h
 ·rename_i hm
  rw [hm] at h1
  exact Nat.le_trans h1 (B3c p _ _ _ _ h)
 ·rename_i hm
  rw [hm] at h1
  simp only at h
  subst h
  exact h1
theorem A97 {p:Program}:∀ (n:Nat) {m m':Machine},runN p n m = .next m'→m.world.drawn≤m'.world.drawn
 | 0,m,m',h=>by simp only [runN,Stepped.next.injEq] at h;rw [h];exact Nat.le_refl _
 | n+1,m,m',h=>by
  simp only [runN] at h
  split at h
  ·rename_i hs
   exact Nat.le_trans (B3d hs) (A97 n h)
  ·rename_i e hne
   exact(hne _ h).elim
theorem Calls.drawn {P:Program} {f:FuncId} {args:Array Value} {w:World} {R:Ending→World→Prop} (h:Calls P f args w R) :
  Calls P f args w fun e w'=>R e w'∧(∀ v,e = .returned v→w.drawn≤w'.drawn):=by
 intro cs
 obtain⟨e,w',fr,hr,hc,hf,hl⟩:=h cs
 refine⟨e,w',fr,⟨hr,fun v hv => ?_⟩,hc,hf,hl⟩
 subst hv
 obtain⟨n,hn⟩:=hc
 exact A97 n hn
end Go.Vc
