/- Operations by evaluation: what an operation reads is looked up, what it leaves is computed. -/
import Derived.Test.YtplbaenjbihekaaGreatDoorVcYB
import Derived.Test.YtplbaenjbihekaaGreatDoorVcZ
import Derived.Test.YtplbaenjbihekaaGreatDoorVcWS
import Derived.Test.YtplbaenjbihekaaGreatDoorVcMD
namespace Go.Vc
open Go
variable {P:Program} {B:Base} {ops:Array Oper} {E:EL} {O:OL}
class Und (P:Program) (t:TypeId) (d:outParam TypeDesc):Prop where
 h:P.underlying t=some d
class TS (P:Program) (t:TypeId) (n:outParam Nat) (ag:outParam Bool):Prop where
 h:TyS P t n ag
class TZ (P:Program) (t:TypeId) (z:outParam V):Prop where
 h:TyZ P t z
class TZL (P:Program) (t:TypeId) (zs:outParam (List V)):Prop where
 h:TyZ P t (.st zs)
class TZD (P:Program) (t:TypeId) (z:outParam D):Prop where
 h:TyZ P t (.d z)
class TE (P:Program) (e:TypeId) (sz bytes:outParam Nat):Prop where
 h:TyE P e sz bytes
class TP (P:Program) (t:TypeId) (places:outParam (List (Nat×Nat))):Prop where
 h:∃ fs,TyF P t fs places
class FE (P:Program) (t:TypeId) (x y:D) (b:outParam Bool):Prop where
 fit:∃ h,Nat.ble h 10000=true∧FitE P h t x y b
 grd:P.eqGuardType P.depth t=false
 agg:x.isAgg=true∧y.isAgg=true
class UF (P:Program) (t:TypeId) (l:outParam (List (Nat×Nat))):Prop where
 h:∃ fs,P.underlying t=some (.struct fs)∧fs.toList.map (fun f=>(f.type,f.offset))=l
theorem UF.get {P:Program} {t:TypeId} {l:List (Nat×Nat)} {f ft o:Nat} (h:UF P t l) (hf:l[f]? = some (ft,o)):∃ fs fl,P.underlying t=some (.struct fs)∧fs[f]? = some fl∧fl.type=ft∧fl.offset=o:=by
 obtain⟨fs,h1,rfl⟩:=h.h
 rw [List.getElem?_map] at hf
 cases e:fs.toList[f]? with
 | none=>rw [e] at hf;cases hf
 | some fl =>
  rw [e] at hf
  cases hf
  exact⟨fs,fl,h1,by rw [← Array.getElem?_toList];exact e,rfl,rfl⟩
class FO (P:Program) (f:FuncId):Prop where
 h:FnOk P f
class Emb (P:Program) (e:TypeId) (α:outParam Type) (f:outParam (α→D)):Prop where
 sz:∀ a b,(f a).sz=(f b).sz
structure E1 (P:Program) (B:Base) (ops:Array Oper) (E:EL) (O:OL) (o:Oper) (d:Nat) (nt:EL) (no:List (Nat×Ob)) (v:V):Prop where
 j:OpJ P B ops o { nt,no,nf:=[],wt:=[(d,v)],wo:=[] }
 e:rE E nt=rE' nt
 o:rO O no=rO' no
structure EG (P:Program) (B:Base) (ops:Array Oper) (E:EL) (O:OL) (o:Oper) (α:Eff):Prop where
 j:OpJ P B ops o α
 e:rE E α.nt=rE' α.nt
 o:rO O α.no=rO' α.no
 f:rF O α.nf=rF' α.nf
section
variable {os:List Oper} {l:List Eff} {E':EL} {O':OL}
theorem k1 {o:Oper} {d:Nat} {nt:EL} {no:List (Nat×Ob)} {v:V} (h:E1 P B ops E O o d nt no v) (k:Sq P B ops ((d,v) :: E) O os l E' O'):Sq P B ops E O (o :: os) ({ nt,no,nf:=[],wt:=[(d,v)],wo:=[] } :: l) E' O' :=
 c h.j (by rw [h.e,h.o]) k
end
inductive RdO (g:Bool) (E:EL):EL→EL→Prop
 | nil:RdO g E [] []
 | keep {t:Nat} {v:V} {l l':EL}:look E t=some v→v.isOpt=false→RdO g E l l'→RdO g E ((t,v) :: l) ((t,v) :: l')
 | opt {t:Nat} {v:V} {l l':EL}:look E t=some (.opt g v)→RdO g E l l'→RdO g E ((t,v) :: l) ((t,.opt g v) :: l')
section
variable {d n:Nat} {ty xt yt t:TypeId} {pos:String} {af:Array Edge} {x y z:Operand} {v w:V} {k k':IntKind} {a b:Int} {nm off:Nat} {p:List Nat}
-- integers
-- memory
-- lengths
end
end Go.Vc
