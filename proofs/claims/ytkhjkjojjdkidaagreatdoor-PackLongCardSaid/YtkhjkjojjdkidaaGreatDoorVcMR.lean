/- Maps of numbers to rows, some of which (the keys own) the map owns: rows taken out and put back, settled. -/
import Derived.Test.YtkhjkjojjdkidaaGreatDoorVcRg
import Derived.Test.YtkhjkjojjdkidaaGreatDoorVcMQ
namespace Go.Vc
open Go
variable {P:Program} {B:Base} {ops:Array Oper}
theorem Sim.takeR {env:Env} {ob:Obs} {a:Act} {w:World} {σ:Nat→Option Nat} {Z:Nat→Prop} (sm:Sim B env ob a w σ Z) (hB:B.ok) {nm m:Nat} {r r':Reg} {ho:Option Nat} {o:Ob} {Y:Nat→Nat→Prop} (F1:∀ n r,ob n=some (some (.reg r))→r.holds Z w (Y n) (σ n))
  (F2:∀ n b,isReg ob n→Y n b→¬ Z b∧b<w.heap.size∧(B.w0.heap.size≤b∨B.own b)∧(∀ m,live ob m→σ m≠some b)∧∀ m,isReg ob m→Y m b→m=n)
  (hob:ob nm=some (some (.reg r))) (hfr:ob m=none) (hm:1000≤m) (hY:∀ b,ho=some b→Y nm b) (hrep1:r'.holds Z w (fun b=>Y nm b∧ho≠some b) (σ nm))
  (hrep:∀ ob' σ',Move (updO ob nm (some (.reg r'))) ob' σ σ' Z Z w w→σ' m=ho→o.rep ob' σ' Z w m) (hor:∀ r,o ≠ .reg r) :
  Sim B env (updO (updO ob nm (some (.reg r'))) m (some o)) a w (updS σ m ho) Z:=by
 have hl:live ob nm:=⟨_,hob⟩
 have hmn:m≠nm:=fun h=>by subst h;exact hl.used hfr
 let Y1:Nat→Nat→Prop:=fun q b=>if q=nm then Y nm b∧ho≠some b else Y q b
 have hY1:∀ q b,Y1 q b→Y q b:=fun q b hq=>by
  simp only [Y1] at hq
  split at hq
  ·rename_i e;rw [e];exact hq.1
  ·exact hq
 have hY1n:Y1 nm=fun b=>Y nm b∧ho≠some b:=by funext b;simp [Y1]
 have hl1:∀ q,live (updO ob nm (some (.reg r'))) q→live ob q:=fun q hq=>by
  rw [D6] at hq
  by_cases e:q=nm
  ·rw [e];exact hl
  ·rwa [if_neg e] at hq
 have hrg1:∀ q,isReg (updO ob nm (some (.reg r'))) q→isReg ob q:=fun q hq=>by
  rcases J5 hq with ⟨e,_⟩ | ⟨_,h⟩
  ·rw [e];exact⟨_,hob⟩
  ·exact h
 have one:∀ (q:Nat) (r2:Reg),updO ob nm (some (.reg r')) q=some (some (.reg r2))→r2.holds Z w (Y1 q) (σ q):=fun q r2 hq=>by
  unfold updO at hq
  by_cases e:q=nm
  ·rw [if_pos e] at hq
   simp only [Option.some.injEq,Ob.reg.injEq] at hq
   subst hq;rw [e,hY1n];exact hrep1
  ·rw [if_neg e] at hq
   have:=F1 q r2 hq
   simp only [Y1,if_neg e];exact this
 have F':Foot B.w0.heap.size B.own (updO ob nm (some (.reg r'))) σ Z w:=by
  refine⟨Y1,one,fun q b' hq hy => ?_⟩
  obtain⟨f1,f2,f3,f4,f5⟩:=F2 q b' (hrg1 q hq) (hY1 q b' hy)
  exact⟨f1,f2,f3,fun p hp=>f4 p (hl1 p hp),fun p hp hpy=>f5 p (hrg1 p hp) (hY1 p b' hpy)⟩
 have s1:=sm.reReg hob F'
 have hfree:∀ q b',live ob q→σ q=some b'→some b'≠ho:=fun q b' hq hb' e=>(F2 nm b' ⟨_,hob⟩ (hY b' e.symm)).2.2.2.1 q hq hb'
 have F2':Foot B.w0.heap.size B.own (updO (updO ob nm (some (.reg r'))) m (some o)) (updS σ m ho) Z w:=by
  have hrg:∀ q,isReg (updO (updO ob nm (some (.reg r'))) m (some o)) q→q≠m∧isReg ob q:=fun q hq=>by
   rcases J5 hq with ⟨_,r2,h⟩ | ⟨g,h⟩
   ·exact absurd (Option.some.inj h) (hor r2)
   ·exact⟨g,hrg1 q h⟩
  refine⟨Y1,fun q r2 hq => ?_,fun q b' hq hy => ?_⟩
  ·have hqm:=(hrg q ⟨r2,hq⟩).1
   rw [show updS σ m ho q=σ q from by simp [updS,hqm]]
   unfold updO at hq
   rw [if_neg hqm] at hq
   exact one q r2 hq
  ·obtain⟨f1,f2,f3,f4,f5⟩:=F2 q b' (hrg q hq).2 (hY1 q b' hy)
   refine⟨f1,f2,f3,fun p hp hpb => ?_,fun p hp hpy=>f5 p (hrg p hp).2 (hY1 p b' hpy)⟩
   rw [D6] at hp
   by_cases e:p=m
   ·simp only [updS,if_pos e] at hpb
    have hq':q=nm:=((F2 nm b' ⟨_,hob⟩ (hY b' hpb)).2.2.2.2 q (hrg q hq).2 (hY1 q b' hy))
    simp only [Y1,if_pos hq'] at hy
    exact hy.2 hpb
   ·rw [if_neg e] at hp
    simp only [updS,if_neg e] at hpb
    exact f4 p (hl1 p hp) hpb
 exact s1.rowNewF hB (nm:=m) (by simp [updO,hmn,hfr]) hm (w1:=w) (g:=ho) (g':=ho) (World.grownBy.refl w _) (fun q b' hq hb'=>hfree q b' (hl1 q hq) hb')
  (fun b' hb'=>by
   obtain⟨f1,f2,f3,_⟩:=F2 nm b' ⟨_,hob⟩ (hY b' hb')
   exact⟨f1,f3⟩) (.inl rfl) hrep F2'
theorem Sim.footGive {env:Env} {ob:Obs} {a:Act} {w:World} {σ:Nat→Option Nat} {Z:Nat→Prop} (sm:Sim B env ob a w σ Z) {nm m b:Nat} {r r':Reg} {Y:Nat→Nat→Prop} (F1:∀ n r,ob n=some (some (.reg r))→r.holds Z w (Y n) (σ n))
  (F2:∀ n b,isReg ob n→Y n b→¬ Z b∧b<w.heap.size∧(B.w0.heap.size≤b∨B.own b)∧(∀ m,live ob m→σ m≠some b)∧∀ m,isReg ob m→Y m b→m=n)
  (hob:ob nm=some (some (.reg r))) (hlm:live ob m) (hmn:m≠nm) (hb:σ nm=some b) {w':World} (hold:∀ q,q≠b→w'.heap[q]? = w.heap[q]?) (hsz':w'.heap.size=w.heap.size) (hrep1:r'.holds Z w' (fun b=>Y nm b∨σ m=some b) (σ nm)) :
  Foot B.w0.heap.size B.own (updO (updO ob m none) nm (some (.reg r'))) σ Z w':=by
 have hl:live ob nm:=⟨_,hob⟩
 have hE:Ext Z Z w w':=⟨fun _ h=>h,fun q hq=>hold q (fun e=>(sm.blk nm b hl hb).1 (e ▸ hq))⟩
 have keepY:∀ q b',isReg ob q→Y q b'→w'.heap[b']? = w.heap[b']? :=fun q b' hq hy'=>hold b' fun e=>(F2 q b' hq hy').2.2.2.1 nm hl (e ▸ hb)
 let Y1:Nat→Nat→Prop:=fun q b'=>if q=nm then Y nm b'∨σ m=some b' else Y q b'
 have hY1n:Y1 nm=fun b=>Y nm b∨σ m=some b:=by funext b;simp [Y1]
 have hlv:∀ q,live (updO (updO ob m none) nm (some (.reg r'))) q→q≠m∧live ob q:=fun q hq=>by
  rw [D6] at hq
  by_cases e:q=nm
  ·rw [e];exact⟨Ne.symm hmn,hl⟩
  ·rw [if_neg e,D6] at hq
   by_cases e':q=m
   ·rw [if_pos e'] at hq;simp at hq
   ·rw [if_neg e'] at hq;exact⟨e',hq⟩
 have hrg:∀ q,isReg (updO (updO ob m none) nm (some (.reg r'))) q→isReg ob q:=fun q hq=>by
  rcases J5 hq with ⟨e,_⟩ | ⟨_,h⟩
  ·rw [e];exact⟨_,hob⟩
  ·rcases J5 h with ⟨_,r,h⟩ | ⟨_,h⟩
   ·cases h
   ·exact h
 refine⟨Y1,fun q r2 hq => ?_,fun q b' hq hy' => ?_⟩
 ·by_cases e:q=nm
  ·unfold updO at hq
   rw [if_pos e] at hq
   simp only [Option.some.injEq,Ob.reg.injEq] at hq
   subst hq;rw [e,hY1n];exact hrep1
  ·have hqr:=hrg q ⟨r2,hq⟩
   unfold updO at hq
   rw [if_neg e] at hq
   split at hq
   ·simp at hq
   ·have:=F1 q r2 hq
    simp only [Y1,if_neg e]
    exact r2.move hE (fun b' hb'=>keepY q b' hqr hb') (fun b' hb'=>hold b' fun e'=>e (sm.inj q nm b hqr.live hl (e' ▸ hb') hb)) this
 ·have hq':=hrg q hq
  by_cases e:q=nm
  ·simp only [Y1,if_pos e] at hy'
   rcases hy' with hy' | hy'
   ·obtain⟨f1,f2,f3,f4,f5⟩:=F2 nm b' ⟨_,hob⟩ hy'
    refine⟨f1,by rw [hsz'];exact f2,f3,fun p hp=>f4 p (hlv p hp).2,fun p hp hpy => ?_⟩
    rw [e]
    by_cases e2:p=nm
    ·exact e2
    ·simp only [Y1,if_neg e2] at hpy
     exact f5 p (hrg p hp) hpy
   ·obtain⟨f1,f3⟩:=sm.blk m b' hlm hy'
    refine⟨f1,by rw [hsz'];exact sm.lt hlm hy',f3,fun p hp hpb=>(hlv p hp).1 (sm.inj p m b' (hlv p hp).2 hlm hpb hy'),fun p hp hpy => ?_⟩
    rw [e]
    by_cases e2:p=nm
    ·exact e2
    ·simp only [Y1,if_neg e2] at hpy
     exact absurd hy' ((F2 p b' (hrg p hp) hpy).2.2.2.1 m hlm)
  ·simp only [Y1,if_neg e] at hy'
   obtain⟨f1,f2,f3,f4,f5⟩:=F2 q b' hq' hy'
   refine⟨f1,by rw [hsz'];exact f2,f3,fun p hp=>f4 p (hlv p hp).2,fun p hp hpy => ?_⟩
   by_cases e2:p=nm
   ·simp only [Y1,if_pos e2] at hpy
    rcases hpy with hpy | hpy
    ·rw [e2];exact f5 nm ⟨_,hob⟩ hpy
    ·exact absurd hpy (f4 m hlm)
   ·simp only [Y1,if_neg e2] at hpy
    exact f5 p (hrg p hp) hpy
theorem Sim.footTurn {env:Env} {ob:Obs} {a:Act} {w:World} {σ:Nat→Option Nat} {Z:Nat→Prop} (sm:Sim B env ob a w σ Z) {nm b:Nat} {r r':Reg} {Y:Nat→Nat→Prop} (F1:∀ n r,ob n=some (some (.reg r))→r.holds Z w (Y n) (σ n))
  (F2:∀ n b,isReg ob n→Y n b→¬ Z b∧b<w.heap.size∧(B.w0.heap.size≤b∨B.own b)∧(∀ m,live ob m→σ m≠some b)∧∀ m,isReg ob m→Y m b→m=n)
  (hob:ob nm=some (some (.reg r))) (hb:σ nm=some b) {w':World} (hold:∀ q,q≠b→w'.heap[q]? = w.heap[q]?) (hsz':w'.heap.size=w.heap.size) (hrep1:r'.holds Z w' (Y nm) (σ nm)) :
  Foot B.w0.heap.size B.own (updO ob nm (some (.reg r'))) σ Z w':=by
 have hl:live ob nm:=⟨_,hob⟩
 have hE:Ext Z Z w w':=⟨fun _ h=>h,fun q hq=>hold q (fun e=>(sm.blk nm b hl hb).1 (e ▸ hq))⟩
 have hlv:∀ q,live (updO ob nm (some (.reg r'))) q→live ob q:=fun q hq=>by
  rw [D6] at hq
  by_cases e:q=nm
  ·rw [e];exact hl
  ·rwa [if_neg e] at hq
 have hrg:∀ q,isReg (updO ob nm (some (.reg r'))) q→isReg ob q:=fun q hq=>by
  rcases J5 hq with ⟨e,_⟩ | ⟨_,h⟩
  ·rw [e];exact⟨_,hob⟩
  ·exact h
 refine⟨Y,fun q r2 hq => ?_,fun q b' hq hy' => ?_⟩
 ·by_cases e:q=nm
  ·unfold updO at hq
   rw [if_pos e] at hq
   simp only [Option.some.injEq,Ob.reg.injEq] at hq
   subst hq;rw [e];exact hrep1
  ·have hqr:=hrg q ⟨r2,hq⟩
   unfold updO at hq
   rw [if_neg e] at hq
   exact r2.move hE (fun b' hb'=>hold b' fun e'=>(F2 q b' hqr hb').2.2.2.1 nm hl (e' ▸ hb)) (fun b' hb'=>hold b' fun e'=>e (sm.inj q nm b hqr.live hl (e' ▸ hb') hb)) (F1 q r2 hq)
 ·obtain⟨f1,f2,f3,f4,f5⟩:=F2 q b' (hrg q hq) hy'
  exact⟨f1,by rw [hsz'];exact f2,f3,fun p hp=>f4 p (hlv p hp),fun p hp=>f5 p (hrg p hp)⟩
-- the map
section
variable {γ:Type} (h:γ→D)
def MapR (Z:Nat→Prop) (w:World) (own:List Int) (sz2:Nat):List (Int×List γ)→List MapEntry→Prop
 | [],[]=>True
 | p :: ps,e :: es=>(e.key = .int .i64 p.1∧(p.1∉own→DV Z w (.list sz2 (p.2.map h)) e.val))∧MapR Z w own sz2 ps es
 | _,_=>False
def InnM (Z:Nat→Prop) (w:World) (e2 sz2:Nat) (xs:List γ) (v:Value):Prop:=∃ ys,w.ownsRow 0 e2 sz2 v xs.length ys∧D.repL Z w (xs.map h) ys
end
section
variable {γ:Type} {h:γ→D}
theorem MapR.ext {Z Z':Nat→Prop} {w w':World} {own:List Int} {sz2:Nat} (hx:Ext Z Z' w w'):∀ {ps:List (Int×List γ)} {es:List MapEntry},MapR h Z w own sz2 ps es→MapR h Z' w' own sz2 ps es
 | [],[],_=>trivial
 | _ :: _,_ :: _,hh=>⟨⟨hh.1.1,fun a=>(hh.1.2 a).ext hx⟩,hh.2.ext hx⟩
 | [],_ :: _,hh=>hh.elim
 | _ :: _,[],hh=>hh.elim
theorem MapR.len {Z:Nat→Prop} {w:World} {own:List Int} {sz2:Nat}:∀ {ps:List (Int×List γ)} {es:List MapEntry},MapR h Z w own sz2 ps es→es.length=ps.length
 | [],[],_=>rfl
 | _ :: _,_ :: _,hh=>by simp [hh.2.len]
 | [],_ :: _,hh=>hh.elim
 | _ :: _,[],hh=>hh.elim
def kix (k:Int):List (Int×List γ)→Option Nat
 | []=>none
 | p :: l=>if k=p.1 then some 0 else (kix k l).map (· + 1)
theorem A1q {k:Int}:∀ {l:List (Int×List γ)} {j:Nat},kix k l=some j→∃ p,l[j]? = some p∧p.1=k
 | [],_,hh=>by simp [kix] at hh
 | p :: l,j,hh=>by
  unfold kix at hh
  by_cases e:k=p.1
  ·rw [if_pos e] at hh;cases hh;exact⟨p,rfl,e.symm⟩
  ·rw [if_neg e] at hh
   cases hq:kix k l with
   | none=>rw [hq] at hh;cases hh
   | some i=>rw [hq] at hh;cases hh;simpa using A1q hq
theorem A3t {k:Int}:∀ {l:List (Int×List γ)},kix k l=none→∀ p∈l,p.1≠k
 | [],_,p,hp=>by cases hp
 | q :: l,hh,p,hp=>by
  unfold kix at hh
  by_cases e:k=q.1
  ·rw [if_pos e] at hh;cases hh
  ·rw [if_neg e] at hh
   rcases List.mem_cons.1 hp with hp | hp
   ·rw [hp];exact fun e'=>e e'.symm
   ·refine A3t ?_ p hp
    cases hq:kix k l with
    | none=>rfl
    | some i=>rw [hq] at hh;cases hh
section
variable {eq:Int→Int→Bool} (heq:∀ a b,eq a b=(a==b))
include heq
theorem A3u {k:Int}:∀ (l:List (Int×List γ)),mget eq l k=(kix k l).bind fun j=>l[j]?.map (·.2)
 | []=>rfl
 | p :: l=>by
  have ih:=A3u (k:=k) l
  have e:mix eq k (p :: l)=if eq k p.1=true then some (0,p.2) else (mix eq k l).map fun r=>(r.1+1,r.2):=by rw [mix]
  unfold mget at ih ⊢
  rw [e,heq]
  unfold kix
  by_cases hk:k=p.1
  ·rw [if_pos (by simpa using hk),if_pos hk];rfl
  ·rw [if_neg (by simpa using hk),if_neg hk,Option.map_map]
   have:(mix eq k l).map ((fun q=>q.2) ∘ fun r=>(r.1+1,r.2))=(mix eq k l).map (·.2):=rfl
   rw [this,ih]
   cases kix k l<;>simp
theorem A8h {k:Int} {v:List γ}:∀ (l:List (Int×List γ)),mput eq l k v=match kix k l with | none=>l++[(k,v)] | some j=>l.set j (k,v)
 | []=>rfl
 | p :: l=>by
  have ih:=A8h (k:=k) (v:=v) l
  unfold mput
  rw [heq]
  unfold kix
  by_cases hk:k=p.1
  ·rw [if_pos (by simpa using hk),if_pos hk];simp [hk]
  ·rw [if_neg (by simpa using hk),if_neg hk,ih]
   cases kix k l<;>simp
end
theorem findR {Z:Nat→Prop} {w:World} {own:List Int} {sz2:Nat} {k:Int}:∀ {ps:List (Int×List γ)} {es:List MapEntry} {i:Nat},MapR h Z w own sz2 ps es →
  Instr.findNow (.int .i64) (.int .i64 k) es i=some ((kix k ps).bind fun j=>es[j]?.map fun e=>(i+j,e.val))
 | [],[],i,_=>rfl
 | p :: ps,e :: es,i,hh=>by
  have ih:=findR (k:=k) (i:=i+1) hh.2
  have hs:Instr.sameNow (.int .i64) (.int .i64 k) e.key=some (k==p.1):=by rw [hh.1.1];simp [Instr.sameNow]
  unfold kix
  by_cases hk:k=p.1
  ·rw [if_pos hk]
   have hb:(k==p.1)=true:=by simpa using hk
   simp [Instr.findNow,hs,hb]
  ·rw [if_neg hk]
   have hb:(k==p.1)=false:=by simpa using hk
   simp only [Instr.findNow,hs,hb,ih]
   cases kix k ps with
   | none=>rfl
   | some j=>simp;congr 1;funext e;simp;omega
 | [],_ :: _,_,hh=>hh.elim
 | _ :: _,[],_,hh=>hh.elim
def mrow (h:γ→D) (e2 sz2:Nat) (own:List Int) (l:List (Int×List γ)) (hole:Option Int):Reg where
 holds Z w Y main:=0<sz2∧(∀ y,(h y).sz=sz2)∧∃ (b:Nat) (ps:List (Int×List γ)) (ents:Array MapEntry) (clock:Nat),main=some b∧ps.Perm l∧(ps.map (·.1)).Nodup∧w.heap[b]? = some (.map ents clock)∧Stamps ents.toList clock∧MapR h Z w own sz2 ps ents.toList ∧
  (∀ (i:Nat) (p:Int×List γ) (e:MapEntry),ps[i]? = some p→ents.toList[i]? = some e→p.1∈own→hole≠some p.1→InnM h Z w e2 sz2 p.2 e.val∧∀ b,e.val.ownBlock=some b→Y b) ∧
  (∀ (i k:Nat) (p q:Int×List γ) (e e':MapEntry) (b:Nat),ps[i]? = some p→ps[k]? = some q→ents.toList[i]? = some e→ents.toList[k]? = some e'→p.1∈own→q.1∈own→hole≠some p.1→hole≠some q.1→e.val.ownBlock=some b→e'.val.ownBlock=some b→i=k)
 move hx hy hm hh:=by
  obtain⟨h0,h00,b,ps,ents,clock,h1,h2,h3,h4,h5,h6,h7,h8⟩:=hh
  refine⟨h0,h00,b,ps,ents,clock,h1,h2,h3,(hm b h1).trans h4,h5,h6.ext hx,fun i p e a1 a2 a3 a4 => ?_,h8⟩
  obtain⟨⟨ys,⟨g1,g2⟩,g3⟩,g⟩:=h7 i p e a1 a2 a3 a4
  refine⟨⟨ys,⟨g1,?_⟩,D.repL_ext hx _ _ g3⟩,g⟩
  rcases g2 with g2 | ⟨q,cap,cur,k1,k2,k3,k4⟩
  ·exact .inl g2
  ·exact .inr ⟨q,cap,cur,k1,k2,(hy q (g q (by rw [k1];rfl))).trans k3,k4⟩
section
variable {d:Nat} {x y i:Operand} {ty:TypeId} {pos:String} {af:Array Edge} {nt nt' nt'':List (Nat×V)}
theorem OpJ.mkmapM {t:TypeId} (hB:B.ok) {nm:Nat} (hnm:1000≤nm) {e2 sz2:Nat} {own:List Int} (h0:0<sz2) (hh:∀ y,(h y).sz=sz2) (hN:d<B.N) :
  OpJ P B ops ⟨some d,.makeMap t none,ty,pos,af,none⟩ { nf:=[nm],wt:=[(d,.mref nm)],wo:=[(nm,some (.reg (mrow h e2 sz2 own [] none)))] } :=
 OpJ.run rfl rfl hN rfl fun env ob a w σ Z sm hne=>by
  have hn:ob nm=none:=hne.2.2 nm (by simp)
  have s':=sm.newObjF hB hn hnm (o:=.reg (mrow h e2 sz2 own [] none)) (c:=.map #[] 0) (fun ob' σ' m hs b hb=>by rw [hs] at hb;cases hb;simp)
   (sm.footAdd hn (by simp) (fun k hk=>Go.RowKit.Below.heap_alloc w _ k hk) (fun b hb=>by cases hb;exact Nat.le_refl _)
    ⟨h0,hh,w.heap.size,[],#[],0,rfl,List.Perm.refl _,List.nodup_nil,heap_alloc_new w _,⟨by simp,by simp⟩,trivial,fun i p e a1=>by simp at a1,fun i k p q e e' b a1=>by simp at a1⟩)
  refine⟨.map (some w.heap.size),_,_,_,?_,by rw [N4 _ rfl];exact s',by rw [N4 _ rfl];exact B5n (by rw [D6];simp) (by simp [updS])⟩
  have hr:(Instr.makeMap t none).run P w = .ok (.map (some w.heap.size)) (w.alloc (.map #[] 0)):=rfl
  simp [execOp,hr]
section
variable {eq:Int→Int→Bool} {kt et t:TypeId} {nm m e2 sz2:Nat} {own:List Int} {l:List (Int×List γ)} {k:Int}
theorem B4c {w:World} (hk:P.underlying kt=some (.int .i64)) (em:Bool) (d:Nat):(Instr.checkKey em (d+1) kt (.int .i64 k)).run P w = .ok () w:=by simp [Instr.checkKey,run_underlying hk]
theorem OpJ.mtakeM (hB:B.ok) (heq:∀ a b,eq a b=(a==b)) (hu:P.underlying t=some (.map kt et)) (hk:P.underlying kt=some (.int .i64)) (hz:TyZ P et .nils) (hm:1000≤m) (hown:k∈own) {xs:List γ} (hxs:xs=(mget eq l k).getD []) {len:Nat} (hlen:len=xs.length) (hN:d<B.N) (hx:Opd x (.mref nm) nt) (hi:Opd i (.d (.int .i64 k)) nt') :
  OpJ P B ops ⟨some d,.lookup t x i false,ty,pos,af,none⟩ { nt:=nt++nt',no:=[(nm,.reg (mrow h e2 sz2 own l none))],nf:=[m],wt:=[(d,.sref m sz2 0 len)],wo:=[(m,some (.row e2 sz2 (xs.map h))),(nm,some (.reg (mrow h e2 sz2 own l (some k))))] } :=
 OpJ.run rfl rfl hN rfl fun env ob a w σ Z sm hne=>by
  obtain⟨n1,n2⟩:=E7 hne.1
  have hob:=hne.2.1 (nm,.reg (mrow h e2 sz2 own l none)) (by simp)
  have hfr:ob m=none:=hne.2.2 m (by simp)
  obtain⟨b,hb,hv⟩:=A4v (hx B env ob a w σ Z sm n1) ⟨_,hob⟩
  have hkv:=K9 (hi B env ob a w σ Z sm n2)
  obtain⟨Y,F1,F2⟩:=sm.foot
  obtain⟨h0,hh,b',ps,ents,clock,h1,h2,h3,h4,h5,h6,h7,h8⟩:=F1 nm _ hob
  have:b'=b:=Option.some.inj (h1.symm.trans hb)
  subst this
  have hg:(getObj b').run P w = .ok (.map ents clock) w:=by simp [getObj,Sem.run,h4]
  have hf:=findR (k:=k) (i:=0) h6
  have hck:=B4c (P:=P) (w:=w) (k:=k) hk ents.isEmpty 9999
  have hfk:(Instr.findKey kt (.int .i64 k) ents.toList).run P w = .ok ((kix k ps).bind fun j=>ents.toList[j]?.map fun e=>(0+j,e.val)) w:=by
   unfold Instr.findKey
   simp only [Sem.run_bind,run_underlying hk,Result.andThen_ok,hf,Sem.run_pure]
  have hzr:=hz.run w
  -- the row's header, and what it is
  have key:∃ v ys,(Instr.lookup t (.map (some b')) (.int .i64 k) false).run P w = .ok v w∧w.ownsRow 0 e2 sz2 v xs.length ys∧D.repL Z w (xs.map h) ys∧(∀ q,v.ownBlock=some q→Y nm q) ∧
    (∀ (i':Nat) (p:Int×List γ) (e:MapEntry) (q:Nat),ps[i']? = some p→ents.toList[i']? = some e→p.1∈own→p.1≠k→e.val.ownBlock=some q→v.ownBlock≠some q):=by
   have hperm:mget eq l k=mget eq ps k:=by
    have hdn:dn (eI .i64) ps:=by
     unfold dn
     have:(ps.map fun p=>eI .i64 p.1)=(ps.map (·.1)).map (eI .i64):=by rw [List.map_map];rfl
     rw [this]
     exact h3.map (f:=eI .i64) (fun a b hab e=>hab (by cases e;rfl))
    rw [A3u heq,A3u heq]
    cases hq:kix k ps with
    | none =>
     cases hq':kix k l with
     | none=>rfl
     | some j =>
      obtain⟨p,e1,e2⟩:=A1q hq'
      exact absurd e2 (A3t hq p (h2.mem_iff.2 (List.mem_of_getElem? e1)))
    | some j =>
     obtain⟨p,e1,e2⟩:=A1q hq
     cases hq':kix k l with
     | none=>exact absurd e2 (A3t hq' p (h2.mem_iff.1 (List.mem_of_getElem? e1)))
     | some j' =>
      obtain⟨p',e3,e4⟩:=A1q hq'
      have hm':p'∈ps:=h2.mem_iff.2 (List.mem_of_getElem? e3)
      obtain⟨i',hi',e5⟩:=List.mem_iff_getElem.1 hm'
      have hji:j=i':=by
       have hlt:j<ps.length:=(List.getElem?_eq_some_iff.1 e1).1
       have hpj:ps[j]=p:=(List.getElem?_eq_some_iff.1 e1).2
       have hn:=List.pairwise_iff_getElem.1 h3
       rcases Nat.lt_trichotomy j i' with hlt' | he' | hgt
       ·exact((hn j i' (by simpa using hlt) (by simpa using hi') hlt') (by simp [hpj,e5,e2,e4])).elim
       ·exact he'
       ·exact((hn i' j (by simpa using hi') (by simpa using hlt) hgt) (by simp [hpj,e5,e2,e4])).elim
      subst hji
      have:p=p':=by
       rw [← e5];exact((List.getElem?_eq_some_iff.1 e1).2).symm
      subst this
      simp [e1,e3]
   rw [hperm,A3u heq] at hxs
   cases hq:kix k ps with
   | none =>
    rw [hq] at hxs hfk
    have hx0:xs=[]:=by simpa using hxs
    subst hx0
    refine⟨.slice none 0 0,[],?_,World.ownsRow_nil w 0 e2 sz2,rfl,fun q hq=>by simp [Value.ownBlock] at hq,fun i' p e q _ _ _ _ _ hq=>by simp [Value.ownBlock] at hq⟩
    simp [Instr.lookup,run_underlying hu,hg,hck,hfk,hzr]
    rfl
   | some j =>
    obtain⟨p,e1,e2⟩:=A1q hq
    have hj:j<ents.toList.length:=by rw [h6.len];exact(List.getElem?_eq_some_iff.1 e1).1
    have he:ents.toList[j]? = some ents.toList[j]:=List.getElem?_eq_getElem hj
    rw [hq] at hxs hfk
    simp only [Option.bind_some,e1,Option.map_some,Option.getD_some] at hxs
    subst hxs
    obtain⟨⟨ys,g1,g2⟩,g3⟩:=h7 j p _ e1 he (by rw [e2];exact hown) (by simp)
    refine⟨ents.toList[j].val,ys,?_,g1,g2,g3,fun i' p' e' q a1 a2 a3 a4 a5 a6 => ?_⟩
    ·simp only [Option.bind_some] at hfk
     rw [he] at hfk
     simp [Instr.lookup,run_underlying hu,hg,hck,hfk]
    ·have:=h8 i' j p' p e' _ q a1 e1 a2 he a3 (by rw [e2];exact hown) (by simp) (by simp) a5 a6
     subst this
     have:p=p':=Option.some.inj (e1.symm.trans a1)
     subst this
     exact a4 e2
  obtain⟨v,ys,r1,r2,r3,r4,r5⟩:=key
  have hrep1:(mrow h e2 sz2 own l (some k)).holds Z w (fun q=>Y nm q∧v.ownBlock≠some q) (σ nm):=by
   refine⟨h0,hh,b',ps,ents,clock,h1,h2,h3,h4,h5,h6,fun i' p e a1 a2 a3 a4 => ?_,fun i' k' p q e e' b2 a1 a2 a3 a4 a5 a6 a7 a8=>h8 i' k' p q e e' b2 a1 a2 a3 a4 a5 a6 (by simp) (by simp)⟩
   obtain⟨k1,k2⟩:=h7 i' p e a1 a2 a3 (by simp)
   exact⟨k1,fun q hq=>⟨k2 q hq,r5 i' p e q a1 a2 a3 (fun e=>a4 (by rw [e])) hq⟩⟩
  have s2:=sm.takeR hB F1 F2 hob hfr hm (ho:=v.ownBlock) (o:=.row e2 sz2 (xs.map h)) r4 hrep1 (fun ob' σ' mv hσ=>⟨h0,fun y hy=>by obtain⟨z,_,rfl⟩:=List.mem_map.1 hy;exact hh z,v,ys,by rw [List.length_map];exact r2,D.repL_ext mv.ext _ _ r3,hσ.symm,fun hn=>by
    rw [hσ] at hn
    rcases r2.2 with ⟨_,h00⟩ | ⟨q,cap,cur,hv',_⟩
    ·rw [List.eq_nil_of_length_eq_zero h00];rfl
    ·rw [hv'] at hn;simp [Value.ownBlock] at hn⟩) (by intro r hr;cases hr)
  rw [A4o _ rfl]
  refine⟨v,w,_,Z,?_,s2,?_⟩
  ·simp only [execOp,hv,hkv,Sem.run_bind,r1,Result.andThen_ok,Sem.run_pure]
  ·rw [hlen]
   exact S0 (e:=e2) (xs:=ys) (by rw [D6];simp) r2 (by simp [updS])
theorem A5r {A:Type} (f:A→A):∀ (es:List A) (j i:Nat),(es.modify j f)[i]? = if i=j then es[i]?.map f else es[i]?
 | [],j,i=>by simp
 | e :: es,0,0=>by simp
 | e :: es,0,i+1=>by simp
 | e :: es,j+1,0=>by simp [List.modify_succ_cons]
 | e :: es,j+1,i+1=>by
  rw [List.modify_succ_cons,List.getElem?_cons_succ,List.getElem?_cons_succ,A5r f es j i]
  simp
theorem MapR.get {Z:Nat→Prop} {w:World}:∀ {ps:List (Int×List γ)} {es:List MapEntry} {j:Nat} {p:Int×List γ} {e:MapEntry},MapR h Z w own sz2 ps es→ps[j]? = some p→es[j]? = some e→e.key = .int .i64 p.1∧(p.1∉own→DV Z w (.list sz2 (p.2.map h)) e.val)
 | [],_,_,_,_,_,h1,_=>by simp at h1
 | _ :: _,[],_,_,_,hh,_,_=>hh.elim
 | p :: ps,e :: es,0,p',e',hh,h1,h2=>by simp at h1 h2;subst h1;subst h2;exact hh.1
 | p :: ps,e :: es,j+1,p',e',hh,h1,h2=>MapR.get hh.2 (by simpa using h1) (by simpa using h2)
theorem MapR.of {Z:Nat→Prop} {w:World}:∀ {ps:List (Int×List γ)} {es:List MapEntry},es.length=ps.length→(∀ (j:Nat) (p:Int×List γ) (e:MapEntry),ps[j]? = some p→es[j]? = some e→e.key = .int .i64 p.1∧(p.1∉own→DV Z w (.list sz2 (p.2.map h)) e.val))→MapR h Z w own sz2 ps es
 | [],[],_,_=>trivial
 | [],_ :: _,h1,_=>by simp at h1
 | _ :: _,[],h1,_=>by simp at h1
 | p :: ps,e :: es,h1,h2=>⟨h2 0 p e rfl rfl,MapR.of (by simpa using h1) fun j p' e' a b=>h2 (j+1) p' e' (by simpa using a) (by simpa using b)⟩
theorem B10 {w:World} {b clock:Nat} {ents:Array MapEntry} {Z:Nat→Prop} {ps l:List (Int×List γ)} {v:Value} {xs:List γ} (heq:∀ a b,eq a b=(a==b)) (hu:P.underlying t=some (.map kt et)) (hk:P.underlying kt=some (.int .i64)) (h2:ps.Perm l) (h3:(ps.map (·.1)).Nodup)
  (hw:w.heap[b]? = some (.map ents clock)) (hst:Stamps ents.toList clock) (h6:MapR h Z w own sz2 ps ents.toList) :
  ∃ (ps':List (Int×List γ)) (ents':Array MapEntry) (clock' j:Nat) (e0:MapEntry),(Instr.mapUpdate t (.map (some b)) (.int .i64 k) v).run P w = .ok () (setBlk w b (.map ents' clock'))∧ps'.Perm (mput eq l k xs)∧(ps'.map (·.1)).Nodup∧Stamps ents'.toList clock'∧ents'.toList.length=ps'.length ∧
   ps'[j]? = some (k,xs)∧ents'.toList[j]? = some e0∧e0.key = .int .i64 k∧e0.val=v∧∀ i,i≠j→ps'[i]? = ps[i]? ∧ ents'.toList[i]? = ents.toList[i]? ∧ ∀ p,ps[i]? = some p→p.1≠k:=by
 have hg:(getObj b).run P w = .ok (.map ents clock) w:=by simp [getObj,Sem.run,hw]
 have hset:∀ o,(setObj b o).run P w = .ok () (Vc.setBlk w b o):=fun o=>by simp [setObj,Sem.run,hw,Vc.setBlk]
 have hf:=findR (k:=k) (i:=0) h6
 have hck:=B4c (P:=P) (w:=w) (k:=k) hk false 9999
 have hfk:(Instr.findKey kt (.int .i64 k) ents.toList).run P w = .ok ((kix k ps).bind fun j=>ents.toList[j]?.map fun e=>(0+j,e.val)) w:=by
  unfold Instr.findKey
  simp only [Sem.run_bind,run_underlying hk,Result.andThen_ok,hf,Sem.run_pure]
 have hlen:=h6.len
 have hkey:∀ q:List (Int×List γ),q.Perm l→(kix k q).isSome=(kix k l).isSome:=fun q hq=>by
  cases h1:kix k q with
  | none =>
   cases h2:kix k l with
   | none=>rfl
   | some j=>obtain⟨p,e1,e2⟩:=A1q h2;exact absurd e2 (A3t h1 p (hq.mem_iff.2 (List.mem_of_getElem? e1)))
  | some j =>
   obtain⟨p,e1,e2⟩:=A1q h1
   cases h2:kix k l with
   | none=>exact absurd e2 (A3t h2 p (hq.mem_iff.1 (List.mem_of_getElem? e1)))
   | some j'=>rfl
 have hdn:dn (eI .i64) ps:=by
  unfold dn
  have:(ps.map fun p=>eI .i64 p.1)=(ps.map (·.1)).map (eI .i64):=by rw [List.map_map];rfl
  rw [this]
  exact h3.map (f:=eI .i64) (fun a b hab e=>hab (by cases e;rfl))
 have hke:KeyEq P kt (eI .i64) eq:=⟨⟨1,by decide,fun a b=>by rw [heq];exact FitE.int (h:=0) a b hk⟩,fun a b e=>by rw [heq] at e;rw [eq_of_beq e]⟩
 have hperm:=B3g (β:=List γ) hke (k:=k) (v:=xs) h2 hdn
 have hnd:((mput eq ps k xs).map (·.1)).Nodup:=by
  have:=B2t hke (k:=k) (v:=xs) hdn
  unfold dn at this
  have e:((mput eq ps k xs).map fun p=>eI .i64 p.1)=((mput eq ps k xs).map (·.1)).map (eI .i64):=by rw [List.map_map];rfl
  rw [e] at this
  exact List.Pairwise.of_map (eI .i64) (fun a b hab e=>hab (by rw [e])) this
 refine⟨mput eq ps k xs,?_⟩
 cases hq:kix k ps with
 | none =>
  rw [hq] at hfk
  have hp:mput eq ps k xs=ps++[(k,xs)]:=by rw [A8h heq,hq]
  refine⟨ents.push { key:=.int .i64 k,val:=v,born:=clock },clock+1,ps.length,{ key:=.int .i64 k,val:=v,born:=clock },?_,hperm,hnd,?_,?_,?_,?_,rfl,rfl,fun i hi=>⟨?_,?_,fun p hp'=>A3t hq p (List.mem_of_getElem? hp')⟩⟩
  ·simp [Instr.mapUpdate,run_underlying hu,hg,hck,hfk,hset]
  ·rw [Array.toList_push];exact hst.push _ _
  ·rw [Array.toList_push,hp];simp [hlen]
  ·rw [hp];simp
  ·rw [Array.toList_push,← hlen];simp
  ·rw [hp]
   rcases Nat.lt_trichotomy i ps.length with h | h | h
   ·rw [List.getElem?_append_left h]
   ·exact absurd h hi
   ·rw [List.getElem?_eq_none (by simp;omega),List.getElem?_eq_none (by omega)]
  ·rw [Array.toList_push]
   rcases Nat.lt_trichotomy i ents.toList.length with h | h | h
   ·rw [List.getElem?_append_left h]
   ·exact absurd (h.trans hlen) hi
   ·rw [List.getElem?_eq_none (by simp at h ⊢;omega),List.getElem?_eq_none (by omega)]
 | some j =>
  obtain⟨p,e1,e2⟩:=A1q hq
  have hj:j<ents.toList.length:=by rw [hlen];exact(List.getElem?_eq_some_iff.1 e1).1
  have he:ents.toList[j]? = some ents.toList[j]:=List.getElem?_eq_getElem hj
  rw [hq] at hfk
  simp only [Option.bind_some] at hfk
  rw [he] at hfk
  have hkj:=(MapR.get h6 e1 he).1
  rw [e2] at hkj
  have hstays:(Instr.keyThatStays (.int .i64 k) (.int .i64 k)).run P w = .ok (.int .i64 k) w:=by simp [Instr.keyThatStays,A2l (v:=.int .i64 k) rfl]
  have hp:mput eq ps k xs=ps.set j (k,xs):=by rw [A8h heq,hq]
  refine⟨ents.modify j fun e => { e with key:=.int .i64 k,val:=v },clock,j,{ ents.toList[j] with key:=.int .i64 k,val:=v },?_,hperm,hnd,?_,?_,?_,?_,rfl,rfl,fun i hi=>⟨?_,?_,fun p' hp' e' => ?_⟩⟩
  ·have hkj':(ents[j]?.map (·.key)).getD (.int .i64 k) = .int .i64 k:=by
    have:ents[j]? = some ents.toList[j]:=by rw [← he];simp
    rw [this];exact hkj
   simp [Instr.mapUpdate,run_underlying hu,hg,hck,hfk]
   rw [hkj']
   simp [hstays,hset]
  ·rw [Array.toList_modify];exact hst.modify _ _ _
  ·rw [Array.toList_modify,hp];simp [hlen]
  ·rw [hp,List.getElem?_set_self (by rw [← hlen];exact hj)]
  ·rw [Array.toList_modify,A5r,if_pos rfl,he];rfl
  ·rw [hp,List.getElem?_set_ne (Ne.symm hi)]
  ·rw [Array.toList_modify,A5r,if_neg hi]
  ·have hn:=List.pairwise_iff_getElem.1 h3
   have hi1:i<ps.length:=(List.getElem?_eq_some_iff.1 hp').1
   have hj1:j<ps.length:=(List.getElem?_eq_some_iff.1 e1).1
   have hpi:=(List.getElem?_eq_some_iff.1 hp').2
   have hpj:=(List.getElem?_eq_some_iff.1 e1).2
   rcases Nat.lt_trichotomy i j with hlt | heq' | hgt
   ·exact((hn i j (by simpa using hi1) (by simpa using hj1) hlt) (by simp [hpi,hpj,e2,e'])).elim
   ·exact hi heq'
   ·exact((hn j i (by simpa using hj1) (by simpa using hi1) hgt) (by simp [hpi,hpj,e2,e'])).elim
theorem OpJ.mputM {xs:List γ} (heq:∀ a b,eq a b=(a==b)) (hu:P.underlying t=some (.map kt et)) (hk:P.underlying kt=some (.int .i64)) (hown:k∉own) (hx:Opd x (.mref nm) nt) (hi:Opd i (.d (.int .i64 k)) nt') (hy:Opd y (.d (.list sz2 (xs.map h))) nt'') :
  OpJ P B ops ⟨none,.mapUpdate t x i y,ty,pos,af,none⟩ { nt:=nt++(nt'++nt''),no:=[(nm,.reg (mrow h e2 sz2 own l none))],wo:=[(nm,some (.reg (mrow h e2 sz2 own (Vc.mput eq l k xs) none)))] } :=
 OpJ.run0 rfl rfl rfl fun env ob a w σ Z sm hne=>by
  obtain⟨n1,n2⟩:=E7 hne.1
  obtain⟨n2,n3⟩:=E7 n2
  have hob:=hne.2.1 (nm,.reg (mrow h e2 sz2 own l none)) (by simp)
  obtain⟨b,hb,hv⟩:=A4v (hx B env ob a w σ Z sm n1) ⟨_,hob⟩
  have hkv:=K9 (hi B env ob a w σ Z sm n2)
  have hyd:DV Z w (.list sz2 (xs.map h)) (a.eval y):=U6 (hy B env ob a w σ Z sm n3)
  obtain⟨Y,F1,F2⟩:=sm.foot
  obtain⟨h0,hh,b',ps,ents,clock,h1,h2,h3,h4,h5,h6,h7,h8⟩:=F1 nm _ hob
  have:b'=b:=Option.some.inj (h1.symm.trans hb)
  subst this
  obtain⟨ps',ents',clock',j,e0,r1,r2,r3,r4,r5,r6,r7,r8,r9,r10⟩:=B10 (P:=P) (k:=k) (v:=a.eval y) (xs:=xs) heq hu hk h2 h3 h4 h5 h6
  have hlt:b'<w.heap.size:=(Array.getElem?_eq_some_iff.1 h4).1
  have hself:∀ o,(Vc.setBlk w b' o).heap[b']? = some o:=fun o=>by unfold Vc.setBlk;simp [hlt]
  have hold:∀ q o,q≠b'→(Vc.setBlk w b' o).heap[q]? = w.heap[q]? :=fun q o hq=>by unfold Vc.setBlk;simp [Ne.symm hq]
  have hE:Ext Z Z w (Vc.setBlk w b' (.map ents' clock')):=⟨fun _ h=>h,fun q hq=>hold q _ (fun e=>(sm.blk nm b' ⟨_,hob⟩ hb).1 (e ▸ hq))⟩
  have hl:live ob nm:=⟨_,hob⟩
  have inn:∀ {zs:List γ} {u:Value},InnM h Z w e2 sz2 zs u→(∀ q,u.ownBlock=some q→Y nm q)→InnM h Z (Vc.setBlk w b' (.map ents' clock')) e2 sz2 zs u:=fun {zs u} ⟨ys,⟨g1,g2⟩,g3⟩ hY=>by
   refine⟨ys,⟨g1,?_⟩,D.repL_ext hE _ _ g3⟩
   rcases g2 with g2 | ⟨q,cap,cur,k1,k2,k3,k4⟩
   ·exact .inl g2
   ·exact .inr ⟨q,cap,cur,k1,k2,(hold q _ (fun e=>(F2 nm q ⟨_,hob⟩ (hY q (by rw [k1];rfl))).2.2.2.1 nm hl (e ▸ hb))).trans k3,k4⟩
  have hrep1:(mrow h e2 sz2 own (Vc.mput eq l k xs) none).holds Z (Vc.setBlk w b' (.map ents' clock')) (Y nm) (σ nm):=by
   refine⟨h0,hh,b',ps',ents',clock',h1,r2,r3,hself _,r4,MapR.of r5 fun q p e a1 a2 => ?_,fun q p e a1 a2 a3 _ => ?_,fun q q' p p' e e' b2 a1 a2 a3 a4 a5 a6 _ _ a7 a8 => ?_⟩
   ·by_cases hq:q=j
    ·subst hq
     rw [r6] at a1;rw [r7] at a2;cases a1;cases a2
     exact⟨r8,fun _=>by rw [r9];exact hyd.ext hE⟩
    ·obtain⟨g1,g2,_⟩:=r10 q hq
     obtain⟨k1,k2⟩:=MapR.get h6 (by rw [← g1];exact a1) (by rw [← g2];exact a2)
     exact⟨k1,fun a=>(k2 a).ext hE⟩
   ·by_cases hq:q=j
    ·subst hq
     rw [r6] at a1;cases a1
     exact absurd a3 hown
    ·obtain⟨g1,g2,_⟩:=r10 q hq
     obtain⟨k1,k2⟩:=h7 q p e (by rw [← g1];exact a1) (by rw [← g2];exact a2) a3 (by simp)
     exact⟨inn k1 k2,k2⟩
   ·have hqj:q≠j:=fun e'=>by subst e';rw [r6] at a1;cases a1;exact hown a5
    have hqj':q'≠j:=fun e'=>by subst e';rw [r6] at a2;cases a2;exact hown a6
    exact h8 q q' p p' e e' b2 (by rw [← (r10 q hqj).1];exact a1) (by rw [← (r10 q' hqj').1];exact a2) (by rw [← (r10 q hqj).2.1];exact a3) (by rw [← (r10 q' hqj').2.1];exact a4) a5 a6 (by simp) (by simp) a7 a8
  have s2:=sm.setBlkF (o':=.reg (mrow h e2 sz2 own (Vc.mput eq l k xs) none)) (c:=.map ents' clock') hob hb hlt (by simp [World.shape?,hself,h4]) (fun ob' m b2 hb2=>by rw [hb] at hb2;cases hb2;unfold Vc.setBlk;simpa using hlt)
   (sm.footTurn F1 F2 hob hb (fun q hq=>hold q _ hq) (by unfold Vc.setBlk;simp) hrep1)
  rw [N4 _ rfl]
  exact⟨_,σ,Z,.inl (by simp only [execOp,hv,hkv,Sem.run_bind,r1,Result.andThen_ok,Sem.run_pure]),s2⟩
theorem OpJ.mputR {xs:List γ} (heq:∀ a b,eq a b=(a==b)) (hu:P.underlying t=some (.map kt et)) (hk:P.underlying kt=some (.int .i64)) (hown:k∈own) {len:Nat} (hlen:len=xs.length) (hx:Opd x (.mref nm) nt) (hi:Opd i (.d (.int .i64 k)) nt') (hy:Opd y (.sref m sz2 0 len) nt'') :
  OpJ P B ops ⟨none,.mapUpdate t x i y,ty,pos,af,none⟩ { nt:=nt++(nt'++nt''),no:=[(nm,.reg (mrow h e2 sz2 own l (some k))),(m,.row e2 sz2 (xs.map h))],wo:=[(nm,some (.reg (mrow h e2 sz2 own (Vc.mput eq l k xs) none))),(m,none)] } :=
 OpJ.run0 rfl rfl rfl fun env ob a w σ Z sm hne=>by
  subst hlen
  obtain⟨n1,n2⟩:=E7 hne.1
  obtain⟨n2,n3⟩:=E7 n2
  have hob:=hne.2.1 (nm,.reg (mrow h e2 sz2 own l (some k))) (by simp)
  have hom:=hne.2.1 (m,.row e2 sz2 (xs.map h)) (by simp)
  have hl:live ob nm:=⟨_,hob⟩
  have hlm:live ob m:=⟨_,hom⟩
  have hmn:m≠nm:=fun h=>by subst h;simp only at hob hom;rw [hob] at hom;simp at hom
  obtain⟨b,hb,hv⟩:=A4v (hx B env ob a w σ Z sm n1) ⟨_,hob⟩
  have hkv:=K9 (hi B env ob a w σ Z sm n2)
  obtain⟨Y,F1,F2⟩:=sm.foot
  obtain⟨h0,hh,b',ps,ents,clock,h1,h2,h3,h4,h5,h6,h7,h8⟩:=F1 nm _ hob
  have:b'=b:=Option.some.inj (h1.symm.trans hb)
  subst this
  obtain⟨_,t2,vm,ys,t3,t4,t5,t6⟩:=sm.obj m _ hom
  rw [List.length_map] at t3
  obtain⟨q1,q2⟩:=A7z (hy B env ob a w σ Z sm n3) hlm h0 t3 t5
  obtain⟨ps',ents',clock',j,e0,r1,r2,r3,r4,r5,r6,r7,r8,r9,r10⟩:=B10 (P:=P) (k:=k) (v:=a.eval y) (xs:=xs) heq hu hk h2 h3 h4 h5 h6
  have hlt:b'<w.heap.size:=(Array.getElem?_eq_some_iff.1 h4).1
  have hself:∀ o,(Vc.setBlk w b' o).heap[b']? = some o:=fun o=>by unfold Vc.setBlk;simp [hlt]
  have hold:∀ q o,q≠b'→(Vc.setBlk w b' o).heap[q]? = w.heap[q]? :=fun q o hq=>by unfold Vc.setBlk;simp [Ne.symm hq]
  have hE:Ext Z Z w (Vc.setBlk w b' (.map ents' clock')):=⟨fun _ h=>h,fun q hq=>hold q _ (fun e=>(sm.blk nm b' ⟨_,hob⟩ hb).1 (e ▸ hq))⟩
  have inn:∀ {zs:List γ} {u:Value},InnM h Z w e2 sz2 zs u→(∀ q,u.ownBlock=some q→q≠b')→InnM h Z (Vc.setBlk w b' (.map ents' clock')) e2 sz2 zs u:=fun {zs u} ⟨ys,⟨g1,g2⟩,g3⟩ hY=>by
   refine⟨ys,⟨g1,?_⟩,D.repL_ext hE _ _ g3⟩
   rcases g2 with g2 | ⟨q,cap,cur,k1,k2,k3,k4⟩
   ·exact .inl g2
   ·exact .inr ⟨q,cap,cur,k1,k2,(hold q _ (hY q (by rw [k1];rfl))).trans k3,k4⟩
  have hmb:∀ q,σ m=some q→q≠b':=fun q hq e=>hmn (sm.inj m nm b' hlm hl (e ▸ hq) hb)
  have oldY:∀ {q:Nat} {p:Int×List γ} {e:MapEntry},q≠j→ps'[q]? = some p→ents'.toList[q]? = some e→p.1∈own→InnM h Z w e2 sz2 p.2 e.val∧∀ b,e.val.ownBlock=some b→Y nm b:=fun {q p e} hq a1 a2 a3=>by
   obtain⟨g1,g2,g3⟩:=r10 q hq
   have a1':ps[q]? = some p:=by rw [← g1];exact a1
   exact h7 q p e a1' (by rw [← g2];exact a2) a3 (fun e'=>g3 p a1' (Option.some.inj e').symm)
  have hrep1:(mrow h e2 sz2 own (Vc.mput eq l k xs) none).holds Z (Vc.setBlk w b' (.map ents' clock')) (fun b=>Y nm b∨σ m=some b) (σ nm):=by
   refine⟨h0,hh,b',ps',ents',clock',h1,r2,r3,hself _,r4,MapR.of r5 fun q p e a1 a2 => ?_,fun q p e a1 a2 a3 _ => ?_,fun q q' p p' e e' b2 a1 a2 a3 a4 a5 a6 _ _ a7 a8 => ?_⟩
   ·by_cases hq:q=j
    ·subst hq
     rw [r6] at a1;rw [r7] at a2;cases a1;cases a2
     exact⟨r8,fun a=>absurd hown a⟩
    ·obtain⟨g1,g2,_⟩:=r10 q hq
     obtain⟨k1,k2⟩:=MapR.get h6 (by rw [← g1];exact a1) (by rw [← g2];exact a2)
     exact⟨k1,fun a=>(k2 a).ext hE⟩
   ·by_cases hq:q=j
    ·subst hq
     rw [r6] at a1;rw [r7] at a2;cases a1;cases a2
     rw [r9]
     exact⟨inn ⟨ys,q1,t4⟩ (fun q hq=>hmb q (by rw [← q2];exact hq)),fun b hb => .inr (by rw [← q2];exact hb)⟩
    ·obtain⟨k1,k2⟩:=oldY hq a1 a2 a3
     exact⟨inn k1 (fun q hq e=>(F2 nm q ⟨_,hob⟩ (k2 q hq)).2.2.2.1 nm hl (e ▸ hb)),fun b hb => .inl (k2 b hb)⟩
   ·by_cases hq:q=j<;>by_cases hq':q'=j
    ·rw [hq,hq']
    ·subst hq
     rw [r7] at a3;cases a3
     rw [r9,q2] at a7
     exact absurd a7 ((F2 nm b2 ⟨_,hob⟩ ((oldY hq' a2 a4 a6).2 b2 a8)).2.2.2.1 m hlm)
    ·subst hq'
     rw [r7] at a4;cases a4
     rw [r9,q2] at a8
     exact absurd a8 ((F2 nm b2 ⟨_,hob⟩ ((oldY hq a1 a3 a5).2 b2 a7)).2.2.2.1 m hlm)
    ·obtain⟨g1,g2,g3⟩:=r10 q hq
     obtain⟨g1',g2',g3'⟩:=r10 q' hq'
     have c1:ps[q]? = some p:=by rw [← g1];exact a1
     have c2:ps[q']? = some p':=by rw [← g1'];exact a2
     exact h8 q q' p p' e e' b2 c1 c2 (by rw [← g2];exact a3) (by rw [← g2'];exact a4) a5 a6 (fun e'=>g3 p c1 (Option.some.inj e').symm) (fun e'=>g3' p' c2 (Option.some.inj e').symm) a7 a8
  have sk:=sm.kill m
  have s2:=sk.setBlkF (n:=nm) (o:=.reg (mrow h e2 sz2 own l (some k))) (o':=.reg (mrow h e2 sz2 own (Vc.mput eq l k xs) none)) (c:=.map ents' clock') (by simp [updO,Ne.symm hmn];exact hob) hb hlt (by simp [World.shape?,hself,h4]) (fun ob' m b2 hb2=>by rw [hb] at hb2;cases hb2;unfold Vc.setBlk;simpa using hlt)
   (sm.footGive F1 F2 hob hlm hmn hb (fun q hq=>hold q _ hq) (by unfold Vc.setBlk;simp) hrep1)
  rw [A4o _ rfl]
  exact⟨_,σ,Z,.inl (by simp only [execOp,hv,hkv,Sem.run_bind,r1,Result.andThen_ok,Sem.run_pure]),s2⟩
theorem InnM.data {Z Z':Nat→Prop} {w:World} {xs:List γ} {v:Value} (hi:InnM h Z w e2 sz2 xs v) (hsz:∀ y,(h y).sz=sz2) (hx:Ext Z Z' w w) (hz:∀ b,v.ownBlock=some b→Z' b):DV Z' w (.list sz2 (xs.map h)) v:=by
 obtain⟨ys,⟨g1,g2⟩,g3⟩:=hi
 refine⟨[v],rfl,?_⟩
 rcases g2 with ⟨rfl,g⟩ | ⟨g,cap,cur,rfl,_,k3,k4,k5,k6,k7⟩
 ·have:xs=[]:=List.eq_nil_of_length_eq_zero g
  subst this
  exact⟨none,0,rfl,Nat.le_refl _,by omega,.inl rfl⟩
 ·refine⟨_,cap,by simp,by simpa using k4,by simpa [maxLen] using k5,.inr ⟨g,0,rfl,hz g rfl,fun q hq=>by obtain⟨z,_,rfl⟩:=List.mem_map.1 hq;exact hsz z,?_⟩⟩
  refine D.repE_of_repL _ g 0 ys (D.repL_ext hx _ ys g3) (fun q hq=>by obtain⟨z,_,rfl⟩:=List.mem_map.1 hq;exact hsz z) fun q u hq => ?_
  rw [Nat.zero_add,cell_of_row w g q cur e2 (0,0) k3]
  rw [← k7,List.getElem?_take] at hq
  split at hq
  ·simpa using hq
  ·cases hq
theorem MapR.toL {Z Z':Nat→Prop} {w:World} (hx:Ext Z Z' w w):∀ {ps:List (Int×List γ)} {es:List MapEntry},MapR h Z w own sz2 ps es →
  (∀ (i:Nat) (p:Int×List γ) (e:MapEntry),ps[i]? = some p→es[i]? = some e→p.1∈own→DV Z' w (.list sz2 (p.2.map h)) e.val)→MapL Z' w (mpairs (eI .i64) (fun xs:List γ => .list sz2 (xs.map h)) ps) es
 | [],[],_,_=>trivial
 | p :: ps,e :: es,hh,hi=>by
  refine⟨⟨⟨[.int .i64 p.1],by rw [hh.1.1];rfl,rfl⟩,?_⟩,MapR.toL hx hh.2 fun i p' e' a b=>hi (i+1) p' e' (by simpa using a) (by simpa using b)⟩
  by_cases ho:p.1∈own
  ·exact hi 0 p e rfl rfl ho
  ·exact(hh.1.2 ho).ext hx
 | [],_ :: _,hh,_=>hh.elim
 | _ :: _,[],hh,_=>hh.elim
theorem Mat.freezeM {E:EL} {O:OL} {n:Nat} (hn:look O n=some (some (.reg (mrow h e2 sz2 own l none)))):Mat B E O E ((n,some (.blk (mapQ (mpairs (eI .i64) (fun xs:List γ => .list sz2 (xs.map h)) l)))) :: O):=fun a w σ Z s=>by
 have hl:live (look O) n:=⟨_,hn⟩
 obtain⟨Y,F1,F2⟩:=s.foot
 obtain⟨h0,hh,b,ps,ents,clock,h1,h2,h3,h4,h5,h6,h7,h8⟩:=F1 n _ hn
 let Z':Nat→Prop:=fun q=>Z q∨Y n q
 have hE:Ext Z Z' w w:=⟨fun _ h => .inl h,fun _ _=>rfl⟩
 let T:Blk:=mapQ (mpairs (eI .i64) (fun xs:List γ => .list sz2 (xs.map h)) l)
 have hT:T.holds Z' w b:=by
  refine⟨mpairs (eI .i64) (fun xs:List γ => .list sz2 (xs.map h)) ps,h2.map _,?_,ents,clock,h4,h6.toL hE (fun i p e a1 a2 a3 => ?_),h5⟩
  ·have:(mpairs (eI .i64) (fun xs:List γ=>D.list sz2 (xs.map h)) ps).map (·.1)=(ps.map (·.1)).map (eI .i64):=by unfold mpairs;rw [List.map_map,List.map_map];rfl
   rw [this]
   exact h3.map (f:=eI .i64) (fun a b hab e=>hab (by cases e;rfl))
  ·obtain⟨k1,k2⟩:=h7 i p e a1 a2 a3 (by simp)
   exact k1.data hh hE fun b hb => .inr (k2 b hb)
 have hlv:∀ m,live (updO (look O) n (some (.blk T))) m→live (look O) m:=fun m hm=>by
  rw [D6] at hm
  by_cases e:m=n
  ·rw [e];exact hl
  ·rwa [if_neg e] at hm
 have hrg:∀ q,isReg (updO (look O) n (some (.blk T))) q→q≠n∧isReg (look O) q:=fun q hq=>by
  rcases J5 hq with ⟨_,r,h⟩ | ⟨e,h⟩
  ·cases h
  ·exact⟨e,h⟩
 have m:Move (look O) (updO (look O) n (some (.blk T))) σ σ Z Z' w w:=⟨hE,fun m h=>A0i h,fun m _ h=>⟨hlv m h,rfl⟩,fun _ _ _ _ _=>rfl⟩
 refine⟨σ,Z',?_⟩
 rw [A2j]
 refine { s with env:=?_,obj:=?_,inj:=fun i j b hi hj=>s.inj i j b (hlv i hi) (hlv j hj),blk:=?_,zlt:=?_,pin:=fun i b hp hi=>s.pin i b hp (hlv i hi),shp:=fun i b hp hi=>s.shp i b hp (hlv i hi),zsub:=fun q h => .inl (s.zsub q h),znew:=?_,foot:=?_ }
 ·intro t x ht
  obtain⟨v,g1,g2⟩:=s.env t x ht
  exact⟨v,g1,g2.move m⟩
 ·intro i o hi
  by_cases e:i=n
  ·subst e
   have ho:o = .blk T:=by simpa [updO] using hi.symm
   subst ho
   exact⟨b,h1,hT⟩
  ·exact Ob.rep_move m (s.obj i o (by simpa [updO,e] using hi)) rfl (fun _ _=>rfl)
 ·intro p q hp hq
  obtain⟨g1,g2⟩:=s.blk p q (hlv p hp) hq
  refine⟨fun h => ?_,g2⟩
  rcases h with h | h
  ·exact g1 h
  ·exact(F2 n q ⟨_,hn⟩ h).2.2.2.1 p (hlv p hp) hq
 ·intro q h
  rcases h with h | h
  ·exact s.zlt q h
  ·exact(F2 n q ⟨_,hn⟩ h).2.1
 ·intro q h
  rcases h with h | h
  ·exact s.znew q h
  ·exact .inr (F2 n q ⟨_,hn⟩ h).2.2.1
 ·refine⟨Y,fun q r hq => ?_,fun q b hq hy => ?_⟩
  ·have hqn:=(hrg q ⟨r,hq⟩).1
   exact r.move hE (fun _ _=>rfl) (fun _ _=>rfl) (F1 q r (by simpa [updO,hqn] using hq))
  ·obtain⟨g1,g2⟩:=hrg q hq
   obtain⟨f1,f2,f3,f4,f5⟩:=F2 q b g2 hy
   refine⟨fun h => ?_,f2,f3,fun p hp=>f4 p (hlv p hp),fun p hp=>f5 p (hrg p hp).2⟩
   rcases h with h | h
   ·exact f1 h
   ·exact g1 (f5 n ⟨_,hn⟩ h).symm
end
end
end
end Go.Vc
