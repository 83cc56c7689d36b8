/- Maps: the operations. -/
import Derived.Test.YtkcpjnjneehecaaVcMA
namespace Go.Vc
open Go
variable {P:Program} {B:Base} {ops:Array Oper}
section
variable {d:Nat} {x y i:Operand} {ty:TypeId} {pos:String} {af:Array Edge} {nt nt' nt'':List (Nat×V)}
section
variable {α β:Type} {f:α→D} {g:β→D} {eq:α→α→Bool} {kt et t:TypeId} {kd:TypeDesc} {nm:Nat} {l:List (α×β)} {k:α}
-- keys of one datum are the same cells
def plainV:Value→Bool
 | .bool _ | .int .. | .string _=>true
 | _=>false
mutual
theorem FitE.only {Z Z':Nat→Prop} {w w':World}:∀ {h:Nat} {t:TypeId} {x y:D} {b:Bool},FitE P h t x y b→∀ {c1 c2:List Value},D.rep Z w x c1→D.rep Z' w' x c2→c1=c2∧∀ v∈c1,plainV v=true
 | _,_,_,_,_,.bool a b hu,c1,c2,h1,h2=>by cases h1;cases h2;simp [plainV]
 | _,_,_,_,_,.int a b hu,c1,c2,h1,h2=>by cases h1;cases h2;simp [plainV]
 | _,_,_,_,_,.str a b hu,c1,c2,h1,h2=>by cases h1;cases h2;simp [plainV]
 | _,_,_,_,_,.st hu hl hs hf,c1,c2,h1,h2=>FitF.only hf h1 h2
theorem FitF.only {Z Z':Nat→Prop} {w w':World}:∀ {h o:Nat} {fs:List Field} {xs ys:List D} {b:Bool},FitF P h o fs xs ys b→∀ {c1 c2:List Value},D.repL Z w xs c1→D.repL Z' w' xs c2→c1=c2∧∀ v∈c1,plainV v=true
 | _,_,_,_,_,_,.nil,c1,c2,h1,h2=>by cases h1;cases h2;simp
 | _,_,_,_,_,_,.cons hn ho ht hx hy he hf,c1,c2,h1,h2=>by
  obtain⟨a1,a2,rfl,g1,g2⟩:=h1
  obtain⟨b1,b2,rfl,k1,k2⟩:=h2
  obtain⟨e1,p1⟩:=FitE.only he g1 k1
  obtain⟨e2,p2⟩:=FitF.only hf g2 k2
  subst e1;subst e2
  refine⟨rfl,fun v hv => ?_⟩
  rcases List.mem_append.1 hv with hv | hv
  ·exact p1 v hv
  ·exact p2 v hv
end
theorem sameBits_plain {v:Value} (h:plainV v=true) (n:Nat):Instr.sameBits n v v=true:=by
 cases v with
 | string s=>unfold Instr.sameBits;show(s.data==s.data)=true;simp
 | _=>simp_all [plainV,Instr.sameBits]
theorem zip_self {α:Type} (p:α×α→Bool):∀ {l:List α},(∀ x∈l,p (x,x)=true)→(l.zip l).all p=true
 | [],_=>rfl
 | x :: l,h=>by simp [List.zip_cons_cons,h x (List.mem_cons_self ..),zip_self p (l:=l) fun y hy=>h y (List.mem_cons_of_mem _ hy)]
theorem stays {x y:D} {b:Bool} {h:Nat} {t:TypeId} (hf:FitE P h t x y b) {Z Z':Nat→Prop} {w w1 w2:World} {v1 v2:Value} (h1:DV Z w1 x v1) (h2:DV Z' w2 x v2):(Instr.keyThatStays v1 v2).run P w = .ok v2 w:=by
 obtain⟨c1,rfl,r1⟩:=h1
 obtain⟨c2,rfl,r2⟩:=h2
 obtain⟨rfl,hp⟩:=hf.only r1 r2
 have hs:Instr.sameBits 10000 (valOf x.isAgg c1) (valOf x.isAgg c1)=true:=by
  cases hx:x.isAgg with
  | true =>
   simp only [valOf,if_true]
   rw [show(10000:Nat)=9999+1 from rfl]
   unfold Instr.sameBits
   simp only [beq_self_eq_true,Bool.true_and]
   exact zip_self _ fun v hv=>sameBits_plain (hp v hv) _
  | false =>
   have hl:=D.rep_len x c1 r1
   rw [D.sz_one hx] at hl
   match c1,hl with
   | [c],_ =>
    simp only [valOf,Bool.false_eq_true,if_false,List.headD]
    exact sameBits_plain (hp c (List.mem_cons_self ..)) _
 simp [Instr.keyThatStays,hs]
theorem modify_born (kv vv:Value):∀ (es:List MapEntry) (j:Nat),(es.modify j fun e => { e with key:=kv,val:=vv }).map (·.born)=es.map (·.born)
 | [],j=>by simp
 | e :: es,0=>by simp
 | e :: es,j+1=>by simp [List.modify_succ_cons,modify_born kv vv es j]
theorem Stamps.modify {es:List MapEntry} {clock:Nat} (h:Stamps es clock) (kv vv:Value) (j:Nat):Stamps (es.modify j fun e => { e with key:=kv,val:=vv }) clock:=by
 have hb:=modify_born kv vv es j
 refine⟨by rw [hb];exact h.apart,fun e he => ?_⟩
 have:e.born∈es.map (·.born):=by rw [← hb];exact List.mem_map_of_mem (f:=fun e:MapEntry=>e.born) he
 obtain⟨e',he',h2⟩:=List.mem_map.1 this
 rw [← h2];exact h.below e' he'
theorem Stamps.push {es:List MapEntry} {clock:Nat} (h:Stamps es clock) (kv vv:Value):Stamps (es++[{ key:=kv,val:=vv,born:=clock }]) (clock+1):=by
 refine⟨?_,fun e he => ?_⟩
 ·rw [List.map_append,List.nodup_append]
  refine⟨h.apart,by simp,fun a ha b hb e => ?_⟩
  obtain⟨e',he',h2⟩:=List.mem_map.1 ha
  simp only [List.map_cons,List.map_nil,List.mem_singleton] at hb
  have:=h.below e' he'
  omega
 ·rcases List.mem_append.1 he with he | he
  ·have:=h.below e he;omega
  ·rw [List.mem_singleton.1 he];exact Nat.lt_succ_self _
end
end
end Go.Vc
