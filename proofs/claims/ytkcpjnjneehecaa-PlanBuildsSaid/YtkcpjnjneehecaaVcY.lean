/- Short forms of the rules that the printer uses most: they save text, nothing else. -/
import Derived.Test.YtkcpjnjneehecaaVcT
namespace Go.Vc
open Go
variable {P:Program} {B:Base} {ops:Array Oper}
@[reducible] def i6 (x:Int):V:=.d (.int .i64 x)
@[reducible] def bo (b:Bool):V:=.d (.bool b)
theorem ot (t:Nat) (v:V):Opd (.tmp t) v [(t,v)]:=Opd.tmp t v
section
variable {d n:Nat} {ty:TypeId} {pos:String} {af:Array Edge} {nt nt':List (Nat×V)} {x y:Operand}
theorem mv {v:V} (hN:B.N=n) (hx:Opd x v nt) (h:Nat.blt d n=true:=by rfl):OpJ P B ops ⟨some d,.move x,ty,pos,af,none⟩ { nt,wt:=[(d,v)] }:=OpJ.move (ltN hN h) hx
theorem ov {o:Oper} {no:List (Nat×Ob)} {nf:List Nat} {v:V} {wo:OL} (v':V) (h:OpJ P B ops o { nt,no,nf,wt:=[(d,v)],wo:=wo }) (e:v=v':=by rfl):OpJ P B ops o { nt,no,nf,wt:=[(d,v')],wo }:=OpJ.val e h
theorem op {o:Op} {α:Eff} {j:Nat} {want:Bool} {gv:V} {g:Bool} (hN:B.N=n) (gt:Nat) (v:V) (h:OpJ P B ops ⟨some d,o,ty,pos,af,none⟩ α) (hl:OptL g α.nt nt') (hgv:GuardV want gv g) (hgd:(ops[j]?).bind (·.dst)=some gt:=by rfl)
  (hd:Nat.blt d n=true:=by rfl) (hv:v.isTop=false:=by rfl) (hwt:α.wt=[(d,v)]:=by rfl) (hwo:α.wo=[]:=by rfl) (hnf:α.nf=[]:=by rfl) :
  OpJ P B ops ⟨some d,o,ty,pos,af,some (j,want)⟩ { nt:=(gt,gv) :: nt',no:=α.no,wt:=[(d,.opt g v)] }:=OpJ.opt' h hgd hgv (ltN hN hd) hv hwt hwo hnf hl
theorem lb {t:TypeId} {m:Nat} {ag:Bool} {nm off:Nat} {p:List Nat} (hN:B.N=n) (bt:TypeId) (c v:V) (ht:TyS P t m ag) (hat:At c p off v) (hx:Opd x (.ptr nm off p) nt) (hag:v.isAgg=ag:=by rfl) (hsz:v.sz=m:=by rfl) (hnt:v.isTop=false:=by rfl) (hd:Nat.blt d n=true:=by rfl) :
  OpJ P B ops ⟨some d,.load t x,ty,pos,af,none⟩ { nt,no:=[(nm,.box bt c)],wt:=[(d,v)] }:=OpJ.loadB ht hat hag hsz hnt (ltN hN hd) hx
theorem fp {s:TypeId} {fs:Array Field} {f:Nat} {fl:Field} {m:Nat} {ag:Bool} (hN:B.N=n) (hs:P.underlying s=some (.struct fs)) (o:Nat) (ht:TyS P fl.type (m+1) ag) {nm off:Nat} {p:List Nat} (obj:Ob) (hx:Opd x (.ptr nm off p) nt)
  (hf:fs[f]? = some fl:=by rfl) (ho:fl.offset=o:=by rfl) (hd:Nat.blt d n=true:=by rfl) :
  OpJ P B ops ⟨some d,.fieldAddr s x f,ty,pos,af,none⟩ { nt,no:=[(nm,obj)],wt:=[(d,.ptr nm (off+o) (p++[f]))] }:=OpJ.fieldP hs hf ho ht (Nat.succ_ne_zero m) (ltN hN hd) hx
end
section
variable {d:Nat} {ty xt yt:TypeId} {pos:String} {af:Array Edge} {nt nt':List (Nat×V)} {x y:Operand} {m n:Int}
theorem add6 (hN:d<B.N) (hx:Opd x (.d (.int .i64 m)) nt) (hy:Opd y (.d (.int .i64 n)) nt'):OpJ P B ops ⟨some d,.binOp .add xt x y yt,ty,pos,af,none⟩ { nt:=nt++nt',wt:=[(d,.d (.int .i64 (w64 (m+n))))] }:=OpJ.add hN hx hy
end
theorem mp {E:EL} {O:OL} (R:List (Nat×Nat)) (E':EL) (O':OL) (hB:B.ok) (hok:okPat R E' O'=true:=by rfl) (hE:patE E' E=patE' R E':=by rfl) (hO:patO R O' O=patO' R O':=by rfl):Mat B E O E' O':=Mat.pat R E' O' hB hok hE hO
theorem ad {fs:List D} {i o off':Nat} (f:D) (hf:fs[i]? = some f:=by rfl) (ho:D.szL (fs.take i)=o:=by rfl) (he:off'=o+0:=by first | rfl | omega):At (.d (.st fs)) [i] off' (.d f):=At.dst1 hf ho (At.here _) he
end Go.Vc
