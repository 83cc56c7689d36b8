/- Operations that compute. -/
import Derived.Test.YtkhjkjojjdkidaaGreatDoorVcC
namespace Go.Vc
open Go
variable {P:Program} {B:Base} {ops:Array Oper}
def Opd (x:Operand) (v:V) (nt:List (Nat×V)):Prop :=
 ∀ (B:Base) (env:Env) (ob:Obs) (a:Act) (w:World) (σ:Nat→Option Nat) (Z:Nat→Prop),Sim B env ob a w σ Z→(∀ p∈nt,env p.1=some p.2)→RepT ob σ Z w (a.eval x) v
theorem Opd.tmp (t:Nat) (v:V):Opd (.tmp t) v [(t,v)]:=fun B env ob a w σ Z s h=>by
 obtain⟨cv,h1,h2⟩:=s.env t v (h (t,v) (by simp))
 have:a.eval (.tmp t)=cv:=by simp [Act.eval,h1]
 rw [this];exact h2
theorem Opd.bool (b:Bool):Opd (.const (.bool b)) (.d (.bool b)) []:=fun B env ob a w σ Z s h=>by simp [Act.eval,RepT,RepV,V.isAgg,D.isAgg,V.rep,D.rep,Value.oneCell']
theorem Opd.int (k:IntKind) (n:Int):Opd (.const (.int k n)) (.d (.int k n)) []:=fun B env ob a w σ Z s h=>by simp [Act.eval,RepT,RepV,V.isAgg,D.isAgg,V.rep,D.rep,Value.oneCell']
theorem Opd.nils:Opd (.const (.slice none 0 0)) .nils []:=fun B env ob a w σ Z s h=>by simp [Act.eval,RepT,RepV,V.isAgg,V.rep,Value.oneCell']
theorem Opd.str (s:List UInt8) (b:ByteArray) (hb:b=⟨s.toArray⟩):Opd (.const (.string b)) (.d (.str s)) []:=fun B env ob a w σ Z _ h=>by simp [hb,Act.eval,RepT,RepV,V.isAgg,D.isAgg,V.rep,D.rep,Value.oneCell']
theorem Opd.func (f:FuncId):Opd (.func f) (.func f []) []:=fun B env ob a w σ Z s h=>by simp [Act.eval,RepT,RepV,V.isAgg,V.rep,V.repL,Value.oneCell']
theorem A87 {α:Type} (d k:Nat) (x:α):look [(d,x)] k=if d=k then some x else none:=by rw [F0];rfl
theorem N2 {d:Nat} {v:V} (α:Eff) (h:α.wt=[(d,v)]) {env:Env}:α.env env=upd env d v:=by
 funext k
 simp only [Eff.env,h,A87,upd]
 by_cases hd:d=k
 ·subst hd;simp
 ·rw [if_neg hd,if_neg (Ne.symm hd)]
theorem A88 (α:Eff) (h:α.wt=[]) {env:Env}:α.env env=env:=by funext k;simp [Eff.env,h,look]
theorem G4 (α:Eff) (h:α.wo=[]) {ob:Obs}:α.obs ob=ob:=by funext k;simp [Eff.obs,h,look]
theorem OpJ.pure {o:Oper} {d:Nat} {nt:List (Nat×V)} {v:V} (hg:o.guard=none) (hd:o.dst=some d) (hN:d<B.N)
  (h:∀ (env:Env) (ob:Obs) (a:Act) (w:World) (σ:Nat→Option Nat) (Z:Nat→Prop),Sim B env ob a w σ Z→(∀ p∈nt,env p.1=some p.2) →
   ∃ cv,(execOp a.eval o).run P w = .ok (.value cv) w∧RepT ob σ Z w cv v):OpJ P B ops o { nt,wt:=[(d,v)] }:=by
 intro Q env ob a w σ Z K s hn hK
 obtain⟨cv,hr,hv⟩:=h env ob a w σ Z s hn.1
 rw [if_pos (by simp [Region.wanted,hg])]
 unfold Oper.wp
 rw [hr,Oper.upon_value,hd]
 refine hK _ _ σ Z ?_
 rw [N2 _ rfl]
 exact s.put hN hv
theorem OpJ.move {d:Nat} {x:Operand} {ty:TypeId} {pos:String} {af:Array Edge} {v:V} {nt:List (Nat×V)} (hN:d<B.N) (hx:Opd x v nt) :
  OpJ P B ops ⟨some d,.move x,ty,pos,af,none⟩ { nt,wt:=[(d,v)] } :=
 OpJ.pure rfl rfl hN fun env ob a w σ Z s h=>⟨a.eval x,rfl,hx B env ob a w σ Z s h⟩
theorem OpJ.assign {d:Nat} {x:Operand} {ty:TypeId} {pos:String} {af:Array Edge} {v:V} {nt:List (Nat×V)} (hN:d<B.N) (hx:Opd x v nt) :
  OpJ P B ops ⟨some d,.assign x,ty,pos,af,none⟩ { nt,wt:=[(d,v)] } :=
 OpJ.pure rfl rfl hN fun env ob a w σ Z s h=>⟨a.eval x,rfl,hx B env ob a w σ Z s h⟩
section
variable {ob:Obs} {σ:Nat→Option Nat} {Z:Nat→Prop} {w:World} {v:Value}
theorem L5 {b:Bool} (h:RepT ob σ Z w v (.d (.bool b))):v = .bool b:=by simpa [RepT,RepV,V.isAgg,D.isAgg,V.rep,D.rep,Value.oneCell'] using And.left h
theorem K9 {k:IntKind} {n:Int} (h:RepT ob σ Z w v (.d (.int k n))):v = .int k n:=by
 have:[v]=[Value.int k n]:=And.left h
 simpa using this
theorem A7v {s:List UInt8} (h:RepT ob σ Z w v (.d (.str s))):v = .string ⟨s.toArray⟩:=by
 have:[v]=[Value.string ⟨s.toArray⟩]:=And.left h
 simpa using this
theorem O4 (b:Bool):RepT ob σ Z w (.bool b) (.d (.bool b)):=by simp [RepT,RepV,V.isAgg,D.isAgg,V.rep,D.rep,Value.oneCell']
theorem Q9 (k:IntKind) (n:Int):RepT ob σ Z w (.int k n) (.d (.int k n)):=by simp [RepT,RepV,V.isAgg,D.isAgg,V.rep,D.rep,Value.oneCell']
theorem B6h (s:List UInt8):RepT ob σ Z w (.string ⟨s.toArray⟩) (.d (.str s)):=by simp [RepT,RepV,V.isAgg,D.isAgg,V.rep,D.rep,Value.oneCell']
theorem B0n (h:RepT ob σ Z w v .nils):v = .slice none 0 0:=by
 have:[v]=[Value.slice none 0 0]:=And.left h
 simpa using this
end
theorem E7 {nt nt':List (Nat×V)} {env:Env} (h:∀ p∈nt++nt',env p.1=some p.2):(∀ p∈nt,env p.1=some p.2)∧(∀ p∈nt',env p.1=some p.2) :=
 ⟨fun p hp=>h p (List.mem_append_left _ hp),fun p hp=>h p (List.mem_append_right _ hp)⟩
theorem OpJ.bin {d:Nat} {op:BinOp} {xt yt:TypeId} {x y:Operand} {ty:TypeId} {pos:String} {af:Array Edge} {k k':IntKind} {m n:Int} {v:V} {nt nt':List (Nat×V)} (hN:d<B.N)
  (hx:Opd x (.d (.int k m)) nt) (hy:Opd y (.d (.int k' n)) nt') (cv:Value)
  (hr:∀ w,(binOp op xt (.int k m) (.int k' n)).run P w = .ok cv w) (hv:∀ ob σ Z w,RepT ob σ Z w cv v) :
  OpJ P B ops ⟨some d,.binOp op xt x y yt,ty,pos,af,none⟩ { nt:=nt++nt',wt:=[(d,v)] } :=
 OpJ.pure rfl rfl hN fun env ob a w σ Z s h=>by
  obtain⟨h1,h2⟩:=E7 h
  have e1:=K9 (hx B env ob a w σ Z s h1)
  have e2:=K9 (hy B env ob a w σ Z s h2)
  refine⟨cv,?_,hv ob σ Z w⟩
  have hgd:(eqGuard op xt x y (.int k m) (.int k' n)).run P w = .ok () w:=by unfold eqGuard;split<;>first | rfl | simp
  simp only [execOp,e1,e2,Sem.run_bind,hgd,Result.andThen_ok,hr]
  rfl
section
variable {d:Nat} {xt yt:TypeId} {x y:Operand} {ty:TypeId} {pos:String} {af:Array Edge} {k:IntKind} {m n:Int} {nt nt':List (Nat×V)}
theorem OpJ.add (hN:d<B.N) (hx:Opd x (.d (.int k m)) nt) (hy:Opd y (.d (.int k n)) nt') :
  OpJ P B ops ⟨some d,.binOp .add xt x y yt,ty,pos,af,none⟩ { nt:=nt++nt',wt:=[(d,.d (.int k (k.wrap (m+n))))] } :=
 OpJ.bin hN hx hy (.int k (k.wrap (m+n))) (fun w=>by simp [binOp,Op.intArith]) fun _ _ _ _=>Q9 _ _
theorem OpJ.sub (hN:d<B.N) (hx:Opd x (.d (.int k m)) nt) (hy:Opd y (.d (.int k n)) nt') :
  OpJ P B ops ⟨some d,.binOp .sub xt x y yt,ty,pos,af,none⟩ { nt:=nt++nt',wt:=[(d,.d (.int k (k.wrap (m-n))))] } :=
 OpJ.bin hN hx hy (.int k (k.wrap (m-n))) (fun w=>by simp [binOp,Op.intArith]) fun _ _ _ _=>Q9 _ _
theorem OpJ.mul (hN:d<B.N) (hx:Opd x (.d (.int k m)) nt) (hy:Opd y (.d (.int k n)) nt') :
  OpJ P B ops ⟨some d,.binOp .mul xt x y yt,ty,pos,af,none⟩ { nt:=nt++nt',wt:=[(d,.d (.int k (k.wrap (m*n))))] } :=
 OpJ.bin hN hx hy (.int k (k.wrap (m*n))) (fun w=>by simp [binOp,Op.intArith]) fun _ _ _ _=>Q9 _ _
theorem OpJ.quo (hN:d<B.N) (hx:Opd x (.d (.int k m)) nt) (hy:Opd y (.d (.int k n)) nt') (h0:n≠0) :
  OpJ P B ops ⟨some d,.binOp .quo xt x y yt,ty,pos,af,none⟩ { nt:=nt++nt',wt:=[(d,.d (.int k (k.wrap (m.tdiv n))))] } :=
 OpJ.bin hN hx hy (.int k (k.wrap (m.tdiv n))) (fun w=>by simp [binOp,Op.intDiv,h0]) fun _ _ _ _=>Q9 _ _
theorem OpJ.rem (hN:d<B.N) (hx:Opd x (.d (.int k m)) nt) (hy:Opd y (.d (.int k n)) nt') (h0:n≠0) :
  OpJ P B ops ⟨some d,.binOp .rem xt x y yt,ty,pos,af,none⟩ { nt:=nt++nt',wt:=[(d,.d (.int k (m.tmod n)))] } :=
 OpJ.bin hN hx hy (.int k (m.tmod n)) (fun w=>by simp [binOp,Op.intDiv,h0]) fun _ _ _ _=>Q9 _ _
theorem OpJ.eqlI (hN:d<B.N) (hx:Opd x (.d (.int k m)) nt) (hy:Opd y (.d (.int k n)) nt') :
  OpJ P B ops ⟨some d,.binOp .eql xt x y yt,ty,pos,af,none⟩ { nt:=nt++nt',wt:=[(d,.d (.bool (m==n)))] } :=
 OpJ.bin hN hx hy (.bool (m==n)) (fun w=>by simp [binOp,Op.intCmp]) fun _ _ _ _=>O4 _
theorem OpJ.neqI (hN:d<B.N) (hx:Opd x (.d (.int k m)) nt) (hy:Opd y (.d (.int k n)) nt') :
  OpJ P B ops ⟨some d,.binOp .neq xt x y yt,ty,pos,af,none⟩ { nt:=nt++nt',wt:=[(d,.d (.bool (m != n)))] } :=
 OpJ.bin hN hx hy (.bool (m != n)) (fun w=>by simp [binOp,Op.intCmp]) fun _ _ _ _=>O4 _
theorem OpJ.lss (hN:d<B.N) (hx:Opd x (.d (.int k m)) nt) (hy:Opd y (.d (.int k n)) nt') :
  OpJ P B ops ⟨some d,.binOp .lss xt x y yt,ty,pos,af,none⟩ { nt:=nt++nt',wt:=[(d,.d (.bool (decide (m<n))))] } :=
 OpJ.bin hN hx hy (.bool (decide (m<n))) (fun w=>by simp [binOp,Op.intCmp]) fun _ _ _ _=>O4 _
theorem OpJ.leq (hN:d<B.N) (hx:Opd x (.d (.int k m)) nt) (hy:Opd y (.d (.int k n)) nt') :
  OpJ P B ops ⟨some d,.binOp .leq xt x y yt,ty,pos,af,none⟩ { nt:=nt++nt',wt:=[(d,.d (.bool (decide (m≤n))))] } :=
 OpJ.bin hN hx hy (.bool (decide (m≤n))) (fun w=>by simp [binOp,Op.intCmp]) fun _ _ _ _=>O4 _
theorem OpJ.gtr (hN:d<B.N) (hx:Opd x (.d (.int k m)) nt) (hy:Opd y (.d (.int k n)) nt') :
  OpJ P B ops ⟨some d,.binOp .gtr xt x y yt,ty,pos,af,none⟩ { nt:=nt++nt',wt:=[(d,.d (.bool (decide (n<m))))] } :=
 OpJ.bin hN hx hy (.bool (decide (n<m))) (fun w=>by simp [binOp,Op.intCmp]) fun _ _ _ _=>O4 _
theorem OpJ.geq (hN:d<B.N) (hx:Opd x (.d (.int k m)) nt) (hy:Opd y (.d (.int k n)) nt') :
  OpJ P B ops ⟨some d,.binOp .geq xt x y yt,ty,pos,af,none⟩ { nt:=nt++nt',wt:=[(d,.d (.bool (decide (n≤m))))] } :=
 OpJ.bin hN hx hy (.bool (decide (n≤m))) (fun w=>by simp [binOp,Op.intCmp]) fun _ _ _ _=>O4 _
def bitI (op:BinOp) (k:IntKind) (m n:Int):Int :=
 let a:=BitVec.ofInt k.bits m
 let b:=BitVec.ofInt k.bits n
 match op with
 | .and=>k.wrap (a &&& b).toNat
 | .or=>k.wrap (a ||| b).toNat
 | .xor=>k.wrap (a ^^^ b).toNat
 | _=>k.wrap (a &&& ~~~b).toNat
theorem OpJ.bits {op:BinOp} (hop:op = .and∨op = .or∨op = .xor∨op = .andNot) (hN:d<B.N) (hx:Opd x (.d (.int k m)) nt) (hy:Opd y (.d (.int k n)) nt') :
  OpJ P B ops ⟨some d,.binOp op xt x y yt,ty,pos,af,none⟩ { nt:=nt++nt',wt:=[(d,.d (.int k (bitI op k m n)))] } :=
 OpJ.bin hN hx hy (.int k (bitI op k m n)) (fun w=>by rcases hop with rfl | rfl | rfl | rfl<;>simp [binOp,Op.intBits,bitI]) fun _ _ _ _=>Q9 _ _
def shlI (k:IntKind) (m n:Int):Int:=k.wrap (m*2 ^ (min n.toNat k.bits))
def shrI (k:IntKind) (m n:Int):Int:=m.fdiv (2 ^ (min n.toNat k.bits))
theorem OpJ.shl {k':IntKind} (hN:d<B.N) (hx:Opd x (.d (.int k m)) nt) (hy:Opd y (.d (.int k' n)) nt') (h0:0≤n) :
  OpJ P B ops ⟨some d,.binOp .shl xt x y yt,ty,pos,af,none⟩ { nt:=nt++nt',wt:=[(d,.d (.int k (shlI k m n)))] } :=
 OpJ.bin hN hx hy (.int k (shlI k m n)) (fun w=>by simp [binOp,Op.shift,shlI,show ¬ n<0 from by omega]) fun _ _ _ _=>Q9 _ _
theorem OpJ.shr {k':IntKind} (hN:d<B.N) (hx:Opd x (.d (.int k m)) nt) (hy:Opd y (.d (.int k' n)) nt') (h0:0≤n) :
  OpJ P B ops ⟨some d,.binOp .shr xt x y yt,ty,pos,af,none⟩ { nt:=nt++nt',wt:=[(d,.d (.int k (shrI k m n)))] } :=
 OpJ.bin hN hx hy (.int k (shrI k m n)) (fun w=>by simp [binOp,Op.shift,shrI,show ¬ n<0 from by omega]) fun _ _ _ _=>Q9 _ _
theorem OpJ.not {b:Bool} (hN:d<B.N) (hx:Opd x (.d (.bool b)) nt) :
  OpJ P B ops ⟨some d,.unOp .not xt x,ty,pos,af,none⟩ { nt,wt:=[(d,.d (.bool (!b)))] } :=
 OpJ.pure rfl rfl hN fun env ob a w σ Z s h=>⟨.bool (!b),by simp [execOp,L5 (hx B env ob a w σ Z s h),Op.unary],O4 _⟩
theorem OpJ.neg (hN:d<B.N) (hx:Opd x (.d (.int k m)) nt) :
  OpJ P B ops ⟨some d,.unOp .neg xt x,ty,pos,af,none⟩ { nt,wt:=[(d,.d (.int k (k.wrap (0-m))))] } :=
 OpJ.pure rfl rfl hN fun env ob a w σ Z s h=>⟨.int k (k.wrap (0-m)),by simp [execOp,K9 (hx B env ob a w σ Z s h),Op.unary,Op.intArith],Q9 _ _⟩
theorem OpJ.inv (hN:d<B.N) (hx:Opd x (.d (.int k m)) nt) :
  OpJ P B ops ⟨some d,.unOp .xor xt x,ty,pos,af,none⟩ { nt,wt:=[(d,.d (.int k (bitI .xor k (if k.signed then -1 else k.max) m)))] } :=
 OpJ.pure rfl rfl hN fun env ob a w σ Z s h=>⟨.int k (bitI .xor k (if k.signed then -1 else k.max) m),by simp [execOp,K9 (hx B env ob a w σ Z s h),Op.unary,Op.intBits,bitI],Q9 _ _⟩
theorem OpJ.conv {k':IntKind} {sd:TypeId} {sx:TypeDesc} (hu:P.underlying xt=some sx) (hs:P.underlying sd=some (.int k')) (hN:d<B.N) (hx:Opd x (.d (.int k m)) nt) :
  OpJ P B ops ⟨some d,.convert xt sd x,ty,pos,af,none⟩ { nt,wt:=[(d,.d (.int k' (k'.wrap m)))] } :=
 OpJ.pure rfl rfl hN fun env ob a w σ Z s h=>⟨.int k' (k'.wrap m),by simp [execOp,K9 (hx B env ob a w σ Z s h),convert,run_underlying hu,run_underlying hs,Conv.intToInt],Q9 _ _⟩
theorem OpJ.pickT {c:Operand} {v:V} (hN:d<B.N) (hc:Opd c (.d (.bool true)) nt) (hx:Opd x v nt') :
  OpJ P B ops ⟨some d,.pick c x y,ty,pos,af,none⟩ { nt:=nt++nt',wt:=[(d,v)] } :=
 OpJ.pure rfl rfl hN fun env ob a w σ Z s h=>by
  obtain⟨h1,h2⟩:=E7 h
  exact⟨a.eval x,by simp [execOp,L5 (hc B env ob a w σ Z s h1),asBool],hx B env ob a w σ Z s h2⟩
theorem OpJ.pickF {c:Operand} {v:V} (hN:d<B.N) (hc:Opd c (.d (.bool false)) nt) (hy:Opd y v nt') :
  OpJ P B ops ⟨some d,.pick c x y,ty,pos,af,none⟩ { nt:=nt++nt',wt:=[(d,v)] } :=
 OpJ.pure rfl rfl hN fun env ob a w σ Z s h=>by
  obtain⟨h1,h2⟩:=E7 h
  exact⟨a.eval y,by simp [execOp,L5 (hc B env ob a w σ Z s h1),asBool],hy B env ob a w σ Z s h2⟩
end
theorem OpJ.guarded {d:Option Nat} {op:Op} {ty:TypeId} {pos:String} {af:Array Edge} {α:Eff} {j g:Nat} {want:Bool} (hg:(ops[j]?).bind (·.dst)=some g)
  (h:OpJ P B ops ⟨d,op,ty,pos,af,none⟩ α):OpJ P B ops ⟨d,op,ty,pos,af,some (j,want)⟩ { α with nt:=(g,.d (.bool want)) :: α.nt }:=by
 intro Q env ob a w σ Z K s hn hK
 have hnn:α.needs env ob:=⟨fun p hp=>hn.1 p (List.mem_cons_of_mem _ hp),hn.2⟩
 have:=h Q env ob a w σ Z K s hnn hK
 rw [if_pos (by simp [Region.wanted])] at this
 obtain⟨cv,h1,h2⟩:=s.env g _ (hn.1 (g,.d (.bool want)) (List.mem_cons_self ..))
 have hcv:=L5 h2
 subst hcv
 rw [if_pos (by simp [Region.wanted,yielded,hg,h1])]
 exact this
theorem OpJ.skip {d:Nat} {op:Op} {ty:TypeId} {pos:String} {af:Array Edge} {j g:Nat} {want:Bool} (hN:d<B.N) (hg:(ops[j]?).bind (·.dst)=some g) :
  OpJ P B ops ⟨some d,op,ty,pos,af,some (j,want)⟩ { nt:=[(g,.d (.bool (!want)))],wt:=[(d,.junk)] }:=by
 intro Q env ob a w σ Z K s hn hK
 obtain⟨cv,h1,h2⟩:=s.env g _ (hn.1 (g,.d (.bool (!want))) (List.mem_cons_self ..))
 have hcv:=L5 h2
 subst hcv
 rw [if_neg (by simp [Region.wanted,yielded,hg,h1])]
 refine hK _ _ σ Z ?_
 rw [N2 _ rfl]
 exact s.put hN (RepT.junk _)
theorem OpJ.skip0 {op:Op} {ty:TypeId} {pos:String} {af:Array Edge} {j g:Nat} {want:Bool} (hg:(ops[j]?).bind (·.dst)=some g) :
  OpJ P B ops ⟨none,op,ty,pos,af,some (j,want)⟩ { nt:=[(g,.d (.bool (!want)))] }:=by
 intro Q env ob a w σ Z K s hn hK
 obtain⟨cv,h1,h2⟩:=s.env g _ (hn.1 (g,.d (.bool (!want))) (List.mem_cons_self ..))
 have hcv:=L5 h2
 subst hcv
 rw [if_neg (by simp [Region.wanted,yielded,hg,h1])]
 exact hK _ _ σ Z s
end Go.Vc
