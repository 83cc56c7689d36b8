/- Operations by evaluation: what an operation reads is looked up, what it leaves is computed. -/
import Derived.Test.YtkhjkjojjdkidaaGreatDoorVcYB
import Derived.Test.YtkhjkjojjdkidaaGreatDoorVcZ
import Derived.Test.YtkhjkjojjdkidaaGreatDoorVcWS
import Derived.Test.YtkhjkjojjdkidaaGreatDoorVcMD
namespace Go.Vc
open Go
variable {P:Program} {B:Base} {ops:Array Oper} {E:EL} {O:OL}
class Und (P:Program) (t:TypeId) (d:outParam TypeDesc):Prop where
 h:P.underlying t=some d
class TS (P:Program) (t:TypeId) (n:outParam Nat) (ag:outParam Bool):Prop where
 h:TyS P t n ag
class TZ (P:Program) (t:TypeId) (z:outParam V):Prop where
 h:TyZ P t z
class TZL (P:Program) (t:TypeId) (zs:outParam (List V)):Prop where
 h:TyZ P t (.st zs)
class TZD (P:Program) (t:TypeId) (z:outParam D):Prop where
 h:TyZ P t (.d z)
class TE (P:Program) (e:TypeId) (sz bytes:outParam Nat):Prop where
 h:TyE P e sz bytes
class TP (P:Program) (t:TypeId) (places:outParam (List (Nat×Nat))):Prop where
 h:∃ fs,TyF P t fs places
class FE (P:Program) (t:TypeId) (x y:D) (b:outParam Bool):Prop where
 fit:∃ h,Nat.ble h 10000=true∧FitE P h t x y b
 grd:P.eqGuardType P.depth t=false
 agg:x.isAgg=true∧y.isAgg=true
class UF (P:Program) (t:TypeId) (l:outParam (List (Nat×Nat))):Prop where
 h:∃ fs,P.underlying t=some (.struct fs)∧fs.toList.map (fun f=>(f.type,f.offset))=l
theorem UF.get {P:Program} {t:TypeId} {l:List (Nat×Nat)} {f ft o:Nat} (h:UF P t l) (hf:l[f]? = some (ft,o)):∃ fs fl,P.underlying t=some (.struct fs)∧fs[f]? = some fl∧fl.type=ft∧fl.offset=o:=by
 obtain⟨fs,h1,rfl⟩:=h.h
 rw [List.getElem?_map] at hf
 cases e:fs.toList[f]? with
 | none=>rw [e] at hf;cases hf
 | some fl =>
  rw [e] at hf
  cases hf
  exact⟨fs,fl,h1,by rw [← Array.getElem?_toList];exact e,rfl,rfl⟩
class FO (P:Program) (f:FuncId):Prop where
 h:FnOk P f
class Emb (P:Program) (e:TypeId) (α:outParam Type) (f:outParam (α→D)):Prop where
 sz:∀ a b,(f a).sz=(f b).sz
def opv:Operand→EL→Option V
 | .tmp t,E=>look E t
 | .const (.int k n),_=>some (.d (.int k n))
 | .const (.bool b),_=>some (.d (.bool b))
 | .const (.slice none 0 0),_=>some .nils
 | .const (.string b),_=>some (.d (.str b.data.toList))
 | .func f,_=>some (.func f [])
 | _,_=>some .junk
def opn:Operand→V→EL
 | .tmp t,v=>[(t,v)]
 | _,_=>[]
theorem H0 {x:Operand} {v:V} (h:opv x E=some v):Opd x v (opn x v):=by
 unfold opv at h
 split at h
 ·exact Opd.tmp _ _
 ·cases h;exact Opd.int _ _
 ·cases h;exact Opd.bool _
 ·cases h;exact Opd.nils
 ·cases h;exact Opd.str _ _ (by simp)
 ·cases h;exact Opd.func _
 ·cases h
  unfold opn
  split
  ·exact Opd.tmp _ _
  ·exact Opd.junk _
theorem H1 {x:Operand} {v:V} (h:opv x E=some v):rE E (opn x v)=rE' (opn x v):=by
 unfold opn
 split
 ·simp only [opv] at h;simp only [rE,rE',h]
 ·rfl
theorem B6j (a b:EL):rE E (a++b)=rE E a++rE E b:=by simp only [B19,List.map_append]
theorem B5g (a b:EL):rE' (a++b)=rE' a++rE' b:=by simp only [A8m,List.map_append]
theorem U8 {a b:EL} (h:rE E a=rE' a) (k:rE E b=rE' b):rE E (a++b)=rE' (a++b):=by rw [B6j,B5g,h,k]
structure E1 (P:Program) (B:Base) (ops:Array Oper) (E:EL) (O:OL) (o:Oper) (d:Nat) (nt:EL) (no:List (Nat×Ob)) (v:V):Prop where
 j:OpJ P B ops o { nt,no,nf:=[],wt:=[(d,v)],wo:=[] }
 e:rE E nt=rE' nt
 o:rO O no=rO' no
structure EG (P:Program) (B:Base) (ops:Array Oper) (E:EL) (O:OL) (o:Oper) (α:Eff):Prop where
 j:OpJ P B ops o α
 e:rE E α.nt=rE' α.nt
 o:rO O α.no=rO' α.no
 f:rF O α.nf=rF' α.nf
section
variable {os:List Oper} {l:List Eff} {E':EL} {O':OL}
theorem k1 {o:Oper} {d:Nat} {nt:EL} {no:List (Nat×Ob)} {v:V} (h:E1 P B ops E O o d nt no v) (k:Sq P B ops ((d,v) :: E) O os l E' O'):Sq P B ops E O (o :: os) ({ nt,no,nf:=[],wt:=[(d,v)],wo:=[] } :: l) E' O' :=
 c h.j (by rw [h.e,h.o]) k
theorem kW {o:Oper} {d:Nat} {nt:EL} {no:List (Nat×Ob)} {nf:List Nat} {v:V} {m:Nat} {x:Option Ob} (h:EG P B ops E O o { nt,no,nf,wt:=[(d,v)],wo:=[(m,x)] }) (k:Sq P B ops ((d,v) :: E) ((m,x) :: O) os l E' O') :
  Sq P B ops E O (o :: os) ({ nt,no,nf,wt:=[(d,v)],wo:=[(m,x)] } :: l) E' O' :=
 cg h.j (by rw [h.e,h.o,h.f]) k
theorem kA {o:Oper} {d:Nat} {nt:EL} {no:List (Nat×Ob)} {nf:List Nat} {v:V} {m m':Nat} {x x':Option Ob} (h:EG P B ops E O o { nt,no,nf,wt:=[(d,v)],wo:=[(m,x),(m',x')] }) (k:Sq P B ops ((d,v) :: E) ((m,x) :: (m',x') :: O) os l E' O') :
  Sq P B ops E O (o :: os) ({ nt,no,nf,wt:=[(d,v)],wo:=[(m,x),(m',x')] } :: l) E' O' :=
 cg h.j (by rw [h.e,h.o,h.f]) k
theorem kS {o:Oper} {nt:EL} {no:List (Nat×Ob)} {nf:List Nat} {m:Nat} {x:Option Ob} (h:EG P B ops E O o { nt,no,nf,wt:=[],wo:=[(m,x)] }) (k:Sq P B ops E ((m,x) :: O) os l E' O') :
  Sq P B ops E O (o :: os) ({ nt,no,nf,wt:=[],wo:=[(m,x)] } :: l) E' O' :=
 cg h.j (by rw [h.e,h.o,h.f]) k
theorem gT {g:Nat} {d:Nat} {op:Op} {ty:TypeId} {pos:String} {af:Array Edge} {j:Nat} {want:Bool} {nt:EL} {no:List (Nat×Ob)} {v:V} (hg:(ops[j]?).bind (·.dst)=some g) (hv:look E g=some (.d (.bool want)))
  (h:E1 P B ops E O ⟨some d,op,ty,pos,af,none⟩ d nt no v):E1 P B ops E O ⟨some d,op,ty,pos,af,some (j,want)⟩ d ((g,.d (.bool want)) :: nt) no v :=
 ⟨OpJ.guarded hg h.j,by simp only [rE,rE',hv,h.e],h.o⟩
theorem gTG {g:Nat} {d:Option Nat} {op:Op} {ty:TypeId} {pos:String} {af:Array Edge} {j:Nat} {want:Bool} {nt:EL} {no:List (Nat×Ob)} {nf:List Nat} {wt:EL} {wo:OL} (hg:(ops[j]?).bind (·.dst)=some g) (hv:look E g=some (.d (.bool want)))
  (h:EG P B ops E O ⟨d,op,ty,pos,af,none⟩ { nt,no,nf,wt,wo }):EG P B ops E O ⟨d,op,ty,pos,af,some (j,want)⟩ { nt:=(g,.d (.bool want)) :: nt,no,nf,wt,wo } :=
 ⟨OpJ.guarded hg h.j,by simp only [rE,rE',hv,h.e],h.o,h.f⟩
theorem gU {g:Nat} {d n:Nat} {op:Op} {ty:TypeId} {pos:String} {af:Array Edge} {j:Nat} {want w:Bool} (hN:B.N=n) (hg:(ops[j]?).bind (·.dst)=some g) (hv:look E g=some (.d (.bool w))) (hw:(!want)=w) (hd:Nat.blt d n=true) :
  E1 P B ops E O ⟨some d,op,ty,pos,af,some (j,want)⟩ d [(g,.d (.bool (!want)))] [] (.opt false .junk) :=
 ⟨OpJ.skipU (ltN hN hd) hg,by simp only [rE,rE',hv,hw],rfl⟩
theorem gV {g:Nat} {d n:Nat} {op:Op} {ty:TypeId} {pos:String} {af:Array Edge} {j:Nat} {want:Bool} {v:V} (hN:B.N=n) (hg:(ops[j]?).bind (·.dst)=some g) (hv:look E g=some (.opt false v)) (hd:Nat.blt d n=true) :
  E1 P B ops E O ⟨some d,op,ty,pos,af,some (j,want)⟩ d [(g,.opt false v)] [] (.opt false .junk) :=
 ⟨OpJ.skipV (ltN hN hd) hg,by simp only [rE,rE',hv],rfl⟩
theorem gU0 {g:Nat} {op:Op} {ty:TypeId} {pos:String} {af:Array Edge} {j:Nat} {want w:Bool} (hg:(ops[j]?).bind (·.dst)=some g) (hv:look E g=some (.d (.bool w))) (hw:(!want)=w) (k:Sq P B ops E O os l E' O') :
  Sq P B ops E O (⟨none,op,ty,pos,af,some (j,want)⟩ :: os) ({ nt:=[(g,.d (.bool (!want)))] } :: l) E' O' :=
 cg (OpJ.skip0 hg) (by simp only [rE,rE',hv,hw];rfl) k
theorem gV0 {g:Nat} {op:Op} {ty:TypeId} {pos:String} {af:Array Edge} {j:Nat} {want:Bool} {v:V} (hg:(ops[j]?).bind (·.dst)=some g) (hv:look E g=some (.opt false v)) (k:Sq P B ops E O os l E' O') :
  Sq P B ops E O (⟨none,op,ty,pos,af,some (j,want)⟩ :: os) ({ nt:=[(g,.opt false v)] } :: l) E' O' :=
 cg (OpJ.skipV0 hg) (by simp only [rE,rE',hv];rfl) k
end
def stripV:V→V
 | .opt _ x=>x
 | x=>x
def strip:EL→EL
 | []=>[]
 | (k,v) :: l=>(k,stripV v) :: strip l
inductive RdO (g:Bool) (E:EL):EL→EL→Prop
 | nil:RdO g E [] []
 | keep {t:Nat} {v:V} {l l':EL}:look E t=some v→v.isOpt=false→RdO g E l l'→RdO g E ((t,v) :: l) ((t,v) :: l')
 | opt {t:Nat} {v:V} {l l':EL}:look E t=some (.opt g v)→RdO g E l l'→RdO g E ((t,v) :: l) ((t,.opt g v) :: l')
theorem RdO.l {g:Bool}:∀ {l l':EL},RdO g E l l'→OptL g l l'
 | _,_,.nil => .nil
 | _,_,.keep _ h k => .keep h k.l
 | _,_,.opt _ k => .opt k.l
theorem RdO.r {g:Bool}:∀ {l l':EL},RdO g E l l'→rE E l'=rE' l'
 | _,_,.nil=>rfl
 | _,_,.keep h _ k=>by simp only [rE,rE',h,k.r]
 | _,_,.opt h k=>by simp only [rE,rE',h,k.r]
def rdw (E:EL):EL→Option EL
 | []=>some []
 | (t,_) :: l=>match look E t with
  | some v=>match rdw E l with
   | some m=>some ((t,v) :: m)
   | none=>none
  | none=>none
theorem gO {gt:Nat} {d n:Nat} {op:Op} {ty:TypeId} {pos:String} {af:Array Edge} {j:Nat} {want g:Bool} {gv:V} {nt nt':EL} {no:List (Nat×Ob)} {v:V} (hN:B.N=n) (hg:(ops[j]?).bind (·.dst)=some gt) (hv:look E gt=some gv) (hgv:GuardV want gv g)
  (h:E1 P B ops (strip E) O ⟨some d,op,ty,pos,af,none⟩ d nt no v) (ht:v.isTop=false) (hw:rdw E nt=some nt') (hr:RdO g E nt nt') (hd:Nat.blt d n=true):E1 P B ops E O ⟨some d,op,ty,pos,af,some (j,want)⟩ d ((gt,gv) :: nt') no (.opt g v) :=
 ⟨OpJ.opt' h.j hg hgv (ltN hN hd) ht rfl rfl rfl hr.l,by simp only [rE,rE',hv,hr.r],h.o⟩
section
variable {d n:Nat} {ty xt yt t:TypeId} {pos:String} {af:Array Edge} {x y z:Operand} {v w:V} {k k':IntKind} {a b:Int} {nm off:Nat} {p:List Nat}
theorem mk1 {o:Oper} (hx:opv x E=some v) (f:Opd x v (opn x v)→OpJ P B ops o { nt:=opn x v,wt:=[(d,w)] }):E1 P B ops E O o d (opn x v) [] w:=⟨f (H0 hx),H1 hx,rfl⟩
theorem mk2 {o:Oper} {u:V} (hx:opv x E=some v) (hy:opv y E=some w) (f:Opd x v (opn x v)→Opd y w (opn y w)→OpJ P B ops o { nt:=opn x v++opn y w,wt:=[(d,u)] }):E1 P B ops E O o d (opn x v++opn y w) [] u :=
 ⟨f (H0 hx) (H0 hy),U8 (H1 hx) (H1 hy),rfl⟩
theorem eMv (hN:B.N=n) (hx:opv x E=some v) (hd:Nat.blt d n=true):E1 P B ops E O ⟨some d,.move x,ty,pos,af,none⟩ d (opn x v) [] v:=mk1 hx (OpJ.move (ltN hN hd))
theorem eAs (hN:B.N=n) (hx:opv x E=some v) (hd:Nat.blt d n=true):E1 P B ops E O ⟨some d,.assign x,ty,pos,af,none⟩ d (opn x v) [] v:=mk1 hx (OpJ.assign (ltN hN hd))
theorem ePT (hN:B.N=n) (hx:opv x E=some (.d (.bool true))) (hy:opv y E=some v) (hd:Nat.blt d n=true):E1 P B ops E O ⟨some d,.pick x y z,ty,pos,af,none⟩ d (opn x (.d (.bool true))++opn y v) [] v:=mk2 hx hy (OpJ.pickT (ltN hN hd))
theorem ePF (hN:B.N=n) (hx:opv x E=some (.d (.bool false))) (hy:opv z E=some v) (hd:Nat.blt d n=true):E1 P B ops E O ⟨some d,.pick x y z,ty,pos,af,none⟩ d (opn x (.d (.bool false))++opn z v) [] v:=mk2 hx hy (OpJ.pickF (ltN hN hd))
theorem ePO {c e g:Bool} (hN:B.N=n) (hx:opv x E=some (.d (.bool c))) (hy:opv y E=some (.opt g (.d (.bool e)))) (hg:g=(c==false)) (hd:Nat.blt d n=true):E1 P B ops E O ⟨some d,.pick x (.const (.bool true)) y,ty,pos,af,none⟩ d (opn x (.d (.bool c))++opn y (.opt g (.d (.bool e)))) [] (bo (c || e)):=mk2 hx hy (OpJ.pickOr hg (ltN hN hd))
theorem ePA {c e g:Bool} (hN:B.N=n) (hx:opv x E=some (.d (.bool c))) (hy:opv y E=some (.opt g (.d (.bool e)))) (hg:g=(c==true)) (hd:Nat.blt d n=true):E1 P B ops E O ⟨some d,.pick x y (.const (.bool false)),ty,pos,af,none⟩ d (opn x (.d (.bool c))++opn y (.opt g (.d (.bool e)))) [] (bo (c&&e)):=mk2 hx hy (OpJ.pickAnd hg (ltN hN hd))
-- integers
theorem eAdd6 (hN:B.N=n) (hx:opv x E=some (.d (.int .i64 a))) (hy:opv y E=some (.d (.int .i64 b))) (hd:Nat.blt d n=true):E1 P B ops E O ⟨some d,.binOp .add xt x y yt,ty,pos,af,none⟩ d (opn x (.d (.int .i64 a))++opn y (.d (.int .i64 b))) [] (i6 (w64 (a+b))):=mk2 hx hy (OpJ.add (ltN hN hd))
theorem eSub6 (hN:B.N=n) (hx:opv x E=some (.d (.int .i64 a))) (hy:opv y E=some (.d (.int .i64 b))) (hd:Nat.blt d n=true):E1 P B ops E O ⟨some d,.binOp .sub xt x y yt,ty,pos,af,none⟩ d (opn x (.d (.int .i64 a))++opn y (.d (.int .i64 b))) [] (i6 (w64 (a-b))):=mk2 hx hy (OpJ.sub (ltN hN hd))
theorem eMul6 (hN:B.N=n) (hx:opv x E=some (.d (.int .i64 a))) (hy:opv y E=some (.d (.int .i64 b))) (hd:Nat.blt d n=true):E1 P B ops E O ⟨some d,.binOp .mul xt x y yt,ty,pos,af,none⟩ d (opn x (.d (.int .i64 a))++opn y (.d (.int .i64 b))) [] (i6 (w64 (a*b))):=mk2 hx hy (OpJ.mul (ltN hN hd))
theorem eQuo6 (hN:B.N=n) (hx:opv x E=some (.d (.int .i64 a))) (hy:opv y E=some (.d (.int .i64 b))) (h0:b≠0) (hd:Nat.blt d n=true):E1 P B ops E O ⟨some d,.binOp .quo xt x y yt,ty,pos,af,none⟩ d (opn x (.d (.int .i64 a))++opn y (.d (.int .i64 b))) [] (i6 (w64 (a.tdiv b))):=mk2 hx hy fun h1 h2=>OpJ.quo (ltN hN hd) h1 h2 h0
theorem eAdd (hN:B.N=n) (hx:opv x E=some (.d (.int k a))) (hy:opv y E=some (.d (.int k b))) (hd:Nat.blt d n=true):E1 P B ops E O ⟨some d,.binOp .add xt x y yt,ty,pos,af,none⟩ d (opn x (.d (.int k a))++opn y (.d (.int k b))) [] (.d (.int k (k.wrap (a+b)))):=mk2 hx hy (OpJ.add (ltN hN hd))
theorem eSub (hN:B.N=n) (hx:opv x E=some (.d (.int k a))) (hy:opv y E=some (.d (.int k b))) (hd:Nat.blt d n=true):E1 P B ops E O ⟨some d,.binOp .sub xt x y yt,ty,pos,af,none⟩ d (opn x (.d (.int k a))++opn y (.d (.int k b))) [] (.d (.int k (k.wrap (a-b)))):=mk2 hx hy (OpJ.sub (ltN hN hd))
theorem eMul (hN:B.N=n) (hx:opv x E=some (.d (.int k a))) (hy:opv y E=some (.d (.int k b))) (hd:Nat.blt d n=true):E1 P B ops E O ⟨some d,.binOp .mul xt x y yt,ty,pos,af,none⟩ d (opn x (.d (.int k a))++opn y (.d (.int k b))) [] (.d (.int k (k.wrap (a*b)))):=mk2 hx hy (OpJ.mul (ltN hN hd))
theorem eQuo (hN:B.N=n) (hx:opv x E=some (.d (.int k a))) (hy:opv y E=some (.d (.int k b))) (h0:b≠0) (hd:Nat.blt d n=true):E1 P B ops E O ⟨some d,.binOp .quo xt x y yt,ty,pos,af,none⟩ d (opn x (.d (.int k a))++opn y (.d (.int k b))) [] (.d (.int k (k.wrap (a.tdiv b)))):=mk2 hx hy fun h1 h2=>OpJ.quo (ltN hN hd) h1 h2 h0
theorem eRem (hN:B.N=n) (hx:opv x E=some (.d (.int k a))) (hy:opv y E=some (.d (.int k b))) (h0:b≠0) (hd:Nat.blt d n=true):E1 P B ops E O ⟨some d,.binOp .rem xt x y yt,ty,pos,af,none⟩ d (opn x (.d (.int k a))++opn y (.d (.int k b))) [] (.d (.int k (a.tmod b))):=mk2 hx hy fun h1 h2=>OpJ.rem (ltN hN hd) h1 h2 h0
theorem eEq (hN:B.N=n) (hx:opv x E=some (.d (.int k a))) (hy:opv y E=some (.d (.int k b))) (hd:Nat.blt d n=true):E1 P B ops E O ⟨some d,.binOp .eql xt x y yt,ty,pos,af,none⟩ d (opn x (.d (.int k a))++opn y (.d (.int k b))) [] (bo (a==b)):=mk2 hx hy (OpJ.eqlI (ltN hN hd))
theorem eNe (hN:B.N=n) (hx:opv x E=some (.d (.int k a))) (hy:opv y E=some (.d (.int k b))) (hd:Nat.blt d n=true):E1 P B ops E O ⟨some d,.binOp .neq xt x y yt,ty,pos,af,none⟩ d (opn x (.d (.int k a))++opn y (.d (.int k b))) [] (bo (a != b)):=mk2 hx hy (OpJ.neqI (ltN hN hd))
theorem eLt (hN:B.N=n) (hx:opv x E=some (.d (.int k a))) (hy:opv y E=some (.d (.int k b))) (hd:Nat.blt d n=true):E1 P B ops E O ⟨some d,.binOp .lss xt x y yt,ty,pos,af,none⟩ d (opn x (.d (.int k a))++opn y (.d (.int k b))) [] (bo (decide (a<b))):=mk2 hx hy (OpJ.lss (ltN hN hd))
theorem eLe (hN:B.N=n) (hx:opv x E=some (.d (.int k a))) (hy:opv y E=some (.d (.int k b))) (hd:Nat.blt d n=true):E1 P B ops E O ⟨some d,.binOp .leq xt x y yt,ty,pos,af,none⟩ d (opn x (.d (.int k a))++opn y (.d (.int k b))) [] (bo (decide (a≤b))):=mk2 hx hy (OpJ.leq (ltN hN hd))
theorem eGt (hN:B.N=n) (hx:opv x E=some (.d (.int k a))) (hy:opv y E=some (.d (.int k b))) (hd:Nat.blt d n=true):E1 P B ops E O ⟨some d,.binOp .gtr xt x y yt,ty,pos,af,none⟩ d (opn x (.d (.int k a))++opn y (.d (.int k b))) [] (bo (decide (b<a))):=mk2 hx hy (OpJ.gtr (ltN hN hd))
theorem eGe (hN:B.N=n) (hx:opv x E=some (.d (.int k a))) (hy:opv y E=some (.d (.int k b))) (hd:Nat.blt d n=true):E1 P B ops E O ⟨some d,.binOp .geq xt x y yt,ty,pos,af,none⟩ d (opn x (.d (.int k a))++opn y (.d (.int k b))) [] (bo (decide (b≤a))):=mk2 hx hy (OpJ.geq (ltN hN hd))
theorem eBit {op:BinOp} (hN:B.N=n) (hop:op = .and∨op = .or∨op = .xor∨op = .andNot) (hx:opv x E=some (.d (.int k a))) (hy:opv y E=some (.d (.int k b))) (hd:Nat.blt d n=true):E1 P B ops E O ⟨some d,.binOp op xt x y yt,ty,pos,af,none⟩ d (opn x (.d (.int k a))++opn y (.d (.int k b))) [] (.d (.int k (bitI op k a b))):=mk2 hx hy (OpJ.bits hop (ltN hN hd))
theorem eShl (hN:B.N=n) (hx:opv x E=some (.d (.int k a))) (hy:opv y E=some (.d (.int k' b))) (h0:0≤b) (hd:Nat.blt d n=true):E1 P B ops E O ⟨some d,.binOp .shl xt x y yt,ty,pos,af,none⟩ d (opn x (.d (.int k a))++opn y (.d (.int k' b))) [] (.d (.int k (shlI k a b))):=mk2 hx hy fun h1 h2=>OpJ.shl (ltN hN hd) h1 h2 h0
theorem eShr (hN:B.N=n) (hx:opv x E=some (.d (.int k a))) (hy:opv y E=some (.d (.int k' b))) (h0:0≤b) (hd:Nat.blt d n=true):E1 P B ops E O ⟨some d,.binOp .shr xt x y yt,ty,pos,af,none⟩ d (opn x (.d (.int k a))++opn y (.d (.int k' b))) [] (.d (.int k (shrI k a b))):=mk2 hx hy fun h1 h2=>OpJ.shr (ltN hN hd) h1 h2 h0
def binF:BinOp→IntKind→Int→Int→Option V
 | .add,.i64,a,b=>some (i6 (w64 (a+b)))
 | .sub,.i64,a,b=>some (i6 (w64 (a-b)))
 | .mul,.i64,a,b=>some (i6 (w64 (a*b)))
 | .add,k,a,b=>some (.d (.int k (k.wrap (a+b))))
 | .sub,k,a,b=>some (.d (.int k (k.wrap (a-b))))
 | .mul,k,a,b=>some (.d (.int k (k.wrap (a*b))))
 | .eql,_,a,b=>some (bo (a==b))
 | .neq,_,a,b=>some (bo (a != b))
 | .lss,_,a,b=>some (bo (decide (a<b)))
 | .leq,_,a,b=>some (bo (decide (a≤b)))
 | .gtr,_,a,b=>some (bo (decide (b<a)))
 | .geq,_,a,b=>some (bo (decide (b≤a)))
 | .and,k,a,b=>some (.d (.int k (bitI .and k a b)))
 | .or,k,a,b=>some (.d (.int k (bitI .or k a b)))
 | .xor,k,a,b=>some (.d (.int k (bitI .xor k a b)))
 | .andNot,k,a,b=>some (.d (.int k (bitI .andNot k a b)))
 | _,_,_,_=>none
theorem eBin {op:BinOp} (hN:B.N=n) (hx:opv x E=some (.d (.int k a))) (hy:opv y E=some (.d (.int k b))) (hv:binF op k a b=some v) (hd:Nat.blt d n=true):E1 P B ops E O ⟨some d,.binOp op xt x y yt,ty,pos,af,none⟩ d (opn x (.d (.int k a))++opn y (.d (.int k b))) [] v:=by
 unfold binF at hv
 split at hv<;>cases hv
 ·exact eAdd6 hN hx hy hd
 ·exact eSub6 hN hx hy hd
 ·exact eMul6 hN hx hy hd
 ·exact eAdd hN hx hy hd
 ·exact eSub hN hx hy hd
 ·exact eMul hN hx hy hd
 ·exact eEq hN hx hy hd
 ·exact eNe hN hx hy hd
 ·exact eLt hN hx hy hd
 ·exact eLe hN hx hy hd
 ·exact eGt hN hx hy hd
 ·exact eGe hN hx hy hd
 ·exact eBit hN (.inl rfl) hx hy hd
 ·exact eBit hN (.inr (.inl rfl)) hx hy hd
 ·exact eBit hN (.inr (.inr (.inl rfl))) hx hy hd
 ·exact eBit hN (.inr (.inr (.inr rfl))) hx hy hd
theorem eNot {c:Bool} (hN:B.N=n) (hx:opv x E=some (.d (.bool c))) (hd:Nat.blt d n=true):E1 P B ops E O ⟨some d,.unOp .not xt x,ty,pos,af,none⟩ d (opn x (.d (.bool c))) [] (bo (!c)):=mk1 hx (OpJ.not (ltN hN hd))
theorem eNeg6 (hN:B.N=n) (hx:opv x E=some (.d (.int .i64 a))) (hd:Nat.blt d n=true):E1 P B ops E O ⟨some d,.unOp .neg xt x,ty,pos,af,none⟩ d (opn x (.d (.int .i64 a))) [] (i6 (w64 (0-a))):=mk1 hx (OpJ.neg (ltN hN hd))
theorem eNeg (hN:B.N=n) (hx:opv x E=some (.d (.int k a))) (hd:Nat.blt d n=true):E1 P B ops E O ⟨some d,.unOp .neg xt x,ty,pos,af,none⟩ d (opn x (.d (.int k a))) [] (.d (.int k (k.wrap (0-a)))):=mk1 hx (OpJ.neg (ltN hN hd))
theorem eInv (hN:B.N=n) (hx:opv x E=some (.d (.int k a))) (hd:Nat.blt d n=true):E1 P B ops E O ⟨some d,.unOp .xor xt x,ty,pos,af,none⟩ d (opn x (.d (.int k a))) [] (.d (.int k (bitI .xor k (if k.signed then -1 else k.max) a))):=mk1 hx (OpJ.inv (ltN hN hd))
theorem eCv6 {sx:TypeDesc} [hu:Und P xt sx] [hs:Und P t (.int .i64)] (hN:B.N=n) (hx:opv x E=some (.d (.int k a))) (hd:Nat.blt d n=true):E1 P B ops E O ⟨some d,.convert xt t x,ty,pos,af,none⟩ d (opn x (.d (.int k a))) [] (i6 (w64 a)):=mk1 hx (OpJ.conv hu.h hs.h (ltN hN hd))
theorem eCv {sx:TypeDesc} [hu:Und P xt sx] [hs:Und P t (.int k')] (hN:B.N=n) (hx:opv x E=some (.d (.int k a))) (hd:Nat.blt d n=true):E1 P B ops E O ⟨some d,.convert xt t x,ty,pos,af,none⟩ d (opn x (.d (.int k a))) [] (.d (.int k' (k'.wrap a))):=mk1 hx (OpJ.conv hu.h hs.h (ltN hN hd))
theorem eEqB {c e:Bool} [hu:Und P xt .bool] (hN:B.N=n) (hx:opv x E=some (.d (.bool c))) (hy:opv y E=some (.d (.bool e))) (hd:Nat.blt d n=true):E1 P B ops E O ⟨some d,.binOp .eql xt x y yt,ty,pos,af,none⟩ d (opn x (.d (.bool c))++opn y (.d (.bool e))) [] (bo (c==e)):=mk2 hx hy (OpJ.eqlB hu.h (ltN hN hd))
theorem eNeB {c e:Bool} [hu:Und P xt .bool] (hN:B.N=n) (hx:opv x E=some (.d (.bool c))) (hy:opv y E=some (.d (.bool e))) (hd:Nat.blt d n=true):E1 P B ops E O ⟨some d,.binOp .neq xt x y yt,ty,pos,af,none⟩ d (opn x (.d (.bool c))++opn y (.d (.bool e))) [] (bo (c != e)):=mk2 hx hy (OpJ.neqB hu.h (ltN hN hd))
theorem eEqD {a b:D} {r:Bool} [hf:FE P xt a b r] (hN:B.N=n) (hx:opv x E=some (.d a)) (hy:opv y E=some (.d b)) (hd:Nat.blt d n=true):E1 P B ops E O ⟨some d,.binOp .eql xt x y yt,ty,pos,af,none⟩ d (opn x (.d a)++opn y (.d b)) [] (bo r) :=
 let ⟨_,hh,hfit⟩:=hf.fit;mk2 hx hy (OpJ.eqlD hfit hf.grd hf.agg hh (ltN hN hd))
theorem eNeD {a b:D} {r:Bool} [hf:FE P xt a b r] (hN:B.N=n) (hx:opv x E=some (.d a)) (hy:opv y E=some (.d b)) (hd:Nat.blt d n=true):E1 P B ops E O ⟨some d,.binOp .neq xt x y yt,ty,pos,af,none⟩ d (opn x (.d a)++opn y (.d b)) [] (bo (!r)) :=
 let ⟨_,hh,hfit⟩:=hf.fit;mk2 hx hy (OpJ.neqD hfit hf.grd hf.agg hh (ltN hN hd))
-- memory
def atD:D→List Nat→Option (Nat×D)
 | x,[]=>some (0,x)
 | .st fs,i :: p=>match fs[i]? with
  | some f=>match atD f p with
   | some (o,y)=>some (D.szL (fs.take i)+o,y)
   | none=>none
  | none=>none
 | _,_=>none
theorem B03:∀ {p:List Nat} {x y:D} {o:Nat},atD x p=some (o,y)→At (.d x) p o (.d y)
 | [],x,y,o,h=>by
  cases x<;>(simp only [atD,Option.some.injEq,Prod.mk.injEq] at h;obtain⟨rfl,rfl⟩:=h;exact At.here _)
 | i :: p,x,y,o,h=>by
  cases x with
  | st fs =>
   simp only [atD] at h
   split at h
   ·rename_i f hf
    split at h
    ·rename_i o' y' hy
     cases h
     exact At.dst hf rfl (B03 hy)
    ·cases h
   ·cases h
  | _=>simp [atD] at h
def atV:V→List Nat→Option (Nat×V)
 | x,[]=>some (0,x)
 | .st fs,i :: p=>match fs[i]? with
  | some f=>match atV f p with
   | some (o,y)=>some (V.szL (fs.take i)+o,y)
   | none=>none
  | none=>none
 | .d x,p=>match atD x p with
  | some (o,y)=>some (o,.d y)
  | none=>none
 | _,_=>none
theorem B45:∀ {p:List Nat} {x y:V} {o:Nat},atV x p=some (o,y)→At x p o y
 | [],x,y,o,h=>by
  cases x<;>(simp only [atV,Option.some.injEq,Prod.mk.injEq] at h;obtain⟨rfl,rfl⟩:=h;exact At.here _)
 | i :: p,x,y,o,h=>by
  cases x with
  | st fs =>
   simp only [atV] at h
   split at h
   ·rename_i f hf
    split at h
    ·rename_i o' y' hy
     cases h
     exact At.st hf rfl (B45 hy)
    ·cases h
   ·cases h
  | d x =>
   simp only [atV] at h
   split at h
   ·rename_i o' y' hy
    cases h
    exact B03 hy
   ·cases h
  | _=>simp [atV] at h
theorem eLdD {m:Nat} {ag:Bool} {e:D} [ht:TS P t m ag] (hN:B.N=n) (hx:opv x E=some (.dptr e)) (hag:e.isAgg=ag) (hsz:e.sz=m) (hd:Nat.blt d n=true):E1 P B ops E O ⟨some d,.load t x,ty,pos,af,none⟩ d (opn x (.dptr e)) [] (.d e):=mk1 hx (OpJ.loadD ht.h hag hsz (ltN hN hd))
theorem eLdB {m:Nat} {ag:Bool} {bt:TypeId} {c:V} {o:Nat} [ht:TS P t m ag] (hN:B.N=n) (hx:opv x E=some (.ptr nm off p)) (ho:look O nm=some (some (.box bt c))) (hat:atV c p=some (o,v)) (ho2:o=off) (hag:v.isAgg=ag) (hsz:v.sz=m) (hnt:v.isTop=false) (hd:Nat.blt d n=true) :
  E1 P B ops E O ⟨some d,.load t x,ty,pos,af,none⟩ d (opn x (.ptr nm off p)) [(nm,.box bt c)] v:=⟨OpJ.loadB ht.h (ho2 ▸ B45 hat) hag hsz hnt (ltN hN hd) (H0 hx),H1 hx,by simp only [rO,rO',ho]⟩
theorem eLdR {m:Nat} {ag:Bool} {e sz k0 o:Nat} {es:List D} {α:Type} {f:α→D} {xs:List α} {q:α} {i:Int} {u:D} [ht:TS P t m ag] [Emb P e α f] (hN:B.N=n) (hx:opv x E=some (.ptr nm off (k0 :: p))) (ho:look O nm=some (some (.row e sz es))) (hi:idx xs i=some q) (hk:k0=i.toNat) (hes:es=xs.map f)
  (hat:atD (f q) p=some (o,u)) (hoff:off=k0*sz+o) (hag:(V.d u).isAgg=ag) (hsz:(V.d u).sz=m) (hd:Nat.blt d n=true):E1 P B ops E O ⟨some d,.load t x,ty,pos,af,none⟩ d (opn x (.ptr nm off (k0 :: p))) [(nm,.row e sz es)] (.d u) :=
 ⟨OpJ.loadR ht.h (by rw [hes,hk];exact Q3 f (E9 hi).2) (B03 hat) hoff hag hsz (ltN hN hd) (H0 hx),H1 hx,by simp only [rO,rO',ho]⟩
theorem eLdO {m:Nat} {ag:Bool} {e sz k0 o off2 len:Nat} {es:List D} {α:Type} {f:α→D} {xs:List α} {q:α} {i:Int} {u:D} [ht:TS P t m ag] [Emb P e α f] (hN:B.N=n) (hx:opv x E=some (.ptr nm off (k0 :: p))) (ho:look O nm=some (some (.row e sz es))) (hi:idx ((xs.drop off2).take len) i=some q) (hk:k0=off2+i.toNat) (hes:es=xs.map f)
  (hat:atD (f q) p=some (o,u)) (hoff:off=k0*sz+o) (hag:(V.d u).isAgg=ag) (hsz:(V.d u).sz=m) (hd:Nat.blt d n=true):E1 P B ops E O ⟨some d,.load t x,ty,pos,af,none⟩ d (opn x (.ptr nm off (k0 :: p))) [(nm,.row e sz es)] (.d u) :=
 ⟨OpJ.loadR ht.h (by rw [hes,hk];exact Q3 f (B28 hi)) (B03 hat) hoff hag hsz (ltN hN hd) (H0 hx),H1 hx,by simp only [rO,rO',ho]⟩
theorem eFP {fs:List (Nat×Nat)} {f ft o m:Nat} {ag:Bool} {obj:Ob} [hu:UF P t fs] (hN:B.N=n) (hx:opv x E=some (.ptr nm off p)) (ho:look O nm=some (some obj)) (hf:fs[f]? = some (ft,o)) (ht:TS P ft (m+1) ag) (hd:Nat.blt d n=true) :
  E1 P B ops E O ⟨some d,.fieldAddr t x f,ty,pos,af,none⟩ d (opn x (.ptr nm off p)) [(nm,obj)] (.ptr nm (off+o) (p++[f])):=by
 obtain⟨_,fl,h1,h2,rfl,rfl⟩:=hu.get hf
 exact⟨OpJ.fieldP h1 h2 rfl ht.h (Nat.succ_ne_zero m) (ltN hN hd) (H0 hx),H1 hx,by simp only [rO,rO',ho]⟩
theorem eFD {fs:List (Nat×Nat)} {f ft o m:Nat} {ag:Bool} {ds:List D} {e:D} [hu:UF P t fs] (hN:B.N=n) (hx:opv x E=some (.dptr (.st ds))) (hf:fs[f]? = some (ft,o)) (ht:TS P ft (m+1) ag) (he:ds[f]? = some e) (ho:D.szL (ds.take f)=o) (hd:Nat.blt d n=true) :
  E1 P B ops E O ⟨some d,.fieldAddr t x f,ty,pos,af,none⟩ d (opn x (.dptr (.st ds))) [] (.dptr e):=by
 obtain⟨_,fl,h1,h2,rfl,rfl⟩:=hu.get hf
 exact mk1 hx (OpJ.fieldD h1 h2 rfl ht.h (Nat.succ_ne_zero m) he ho (ltN hN hd))
theorem ct3 {a b c:Bool} (h:(a&&b&&c)=true):a=true∧b=true∧c=true:=by
 rw [Bool.and_eq_true,Bool.and_eq_true] at h;exact⟨h.1.1,h.1.2,h.2⟩
theorem eCtH {e sz:Nat} {ag:Bool} {α:Type} {f:α→D} {l:List α} {z:Operand} [hu:Und P t (.slice e)] [ht:TS P e sz ag] (hN:B.N=n) (hx:opv x E=some (.d (.list sz (l.map f)))) (hz:opv z E=some (.d (.int k a))) (hc:(decide (0≤a)&&decide (0≤a.toNat)&&decide (a.toNat≤l.length))=true) (hd:Nat.blt d n=true) :
  E1 P B ops E O ⟨some d,.slice t x none (some z) none,ty,pos,af,none⟩ d (opn x (.d (.list sz (l.map f)))++([]++opn z (.d (.int k a)))) [] (.d (.list sz (((l.take a.toNat).drop 0).map f))) :=
 have h:=ct3 hc
 ⟨OpJ.cutD hu.h ht.h (es:=l.map f) (.inl ⟨rfl,rfl,rfl⟩) (.inr ⟨_,_,_,rfl,H0 hz,of_decide_eq_true h.1,rfl⟩) (Nat.zero_le _) (by rw [List.length_map];exact of_decide_eq_true h.2.2) (by rw [List.map_drop,List.map_take]) (ltN hN hd) (H0 hx),U8 (H1 hx) (U8 rfl (H1 hz)),rfl⟩
theorem eCtL {e sz:Nat} {ag:Bool} {α:Type} {f:α→D} {l:List α} {z:Operand} [hu:Und P t (.slice e)] [ht:TS P e sz ag] (hN:B.N=n) (hx:opv x E=some (.d (.list sz (l.map f)))) (hz:opv z E=some (.d (.int k a))) (hc:(decide (0≤a)&&decide (a.toNat≤l.length)&&decide (l.length≤l.length))=true) (hd:Nat.blt d n=true) :
  E1 P B ops E O ⟨some d,.slice t x (some z) none none,ty,pos,af,none⟩ d (opn x (.d (.list sz (l.map f)))++(opn z (.d (.int k a))++[])) [] (.d (.list sz (((l.take l.length).drop a.toNat).map f))) :=
 have h:=ct3 hc
 ⟨OpJ.cutD hu.h ht.h (es:=l.map f) (h:=l.length) (.inr ⟨_,_,_,rfl,H0 hz,of_decide_eq_true h.1,rfl⟩) (.inl ⟨rfl,by rw [List.length_map],rfl⟩) (of_decide_eq_true h.2.1) (by rw [List.length_map];exact Nat.le_refl _) (by rw [List.map_drop,List.map_take]) (ltN hN hd) (H0 hx),U8 (H1 hx) (U8 (H1 hz) rfl),rfl⟩
theorem eCtB {e sz:Nat} {ag:Bool} {α:Type} {f:α→D} {l:List α} {z z':Operand} {b:Int} {k':IntKind} [hu:Und P t (.slice e)] [ht:TS P e sz ag] (hN:B.N=n) (hx:opv x E=some (.d (.list sz (l.map f)))) (hz:opv z E=some (.d (.int k a))) (hz':opv z' E=some (.d (.int k' b))) (hc:(decide (0≤a)&&decide (0≤b)&&decide (a.toNat≤b.toNat)&&decide (b.toNat≤l.length))=true) (hd:Nat.blt d n=true) :
  E1 P B ops E O ⟨some d,.slice t x (some z) (some z') none,ty,pos,af,none⟩ d (opn x (.d (.list sz (l.map f)))++(opn z (.d (.int k a))++opn z' (.d (.int k' b)))) [] (.d (.list sz (((l.take b.toNat).drop a.toNat).map f))) :=
 have h:=ct3 hc
 have h':=ct3 (by rw [Bool.and_eq_true] at hc;exact hc.1:(decide (0≤a)&&decide (0≤b)&&decide (a.toNat≤b.toNat))=true)
 ⟨OpJ.cutD hu.h ht.h (es:=l.map f) (.inr ⟨_,_,_,rfl,H0 hz,of_decide_eq_true h'.1,rfl⟩) (.inr ⟨_,_,_,rfl,H0 hz',of_decide_eq_true h'.2.1,rfl⟩) (of_decide_eq_true h'.2.2) (by rw [List.length_map];exact of_decide_eq_true h.2.2) (by rw [List.map_drop,List.map_take]) (ltN hN hd) (H0 hx),U8 (H1 hx) (U8 (H1 hz) (H1 hz')),rfl⟩
theorem eIxD {e sz:Nat} {ag:Bool} {es:List D} {α:Type} {f:α→D} {xs:List α} {q:α} [hu:Und P t (.slice e)] [ht:TS P e sz ag] [Emb P e α f] (hN:B.N=n) (hx:opv x E=some (.d (.list sz es))) (hy:opv y E=some (.d (.int k a))) (hi:idx xs a=some q) (hes:es=xs.map f) (hd:Nat.blt d n=true) :
  E1 P B ops E O ⟨some d,.indexAddr t x y,ty,pos,af,none⟩ d (opn x (.d (.list sz es))++opn y (.d (.int k a))) [] (.dptr (f q)):=mk2 hx hy (OpJ.indexD hu.h ht.h (E9 hi).1 (by rw [hes];exact Q3 f (E9 hi).2) (ltN hN hd))
theorem eIxS {e e' sz len:Nat} {ag:Bool} {es:List D} {α:Type} {xs:List α} {q:α} [hu:Und P t (.slice e)] [ht:TS P e sz ag] (hN:B.N=n) (hx:opv x E=some (.sref nm sz 0 len)) (hy:opv y E=some (.d (.int k a))) (ho:look O nm=some (some (.row e' sz es))) (hi:idx xs a=some q) (hl:xs.length=len) (hd:Nat.blt d n=true) :
  E1 P B ops E O ⟨some d,.indexAddr t x y,ty,pos,af,none⟩ d (opn x (.sref nm sz 0 len)++opn y (.d (.int k a))) [(nm,.row e' sz es)] (.ptr nm (a.toNat*sz) [a.toNat]) :=
 ⟨by have h:=OpJ.indexS (P:=P) (B:=B) (ops:=ops) (d:=d) (ty:=ty) (pos:=pos) (af:=af) (obj:=.row e' sz es) hu.h ht.h (E9 hi).1 (hl ▸ B08 hi) (ltN hN hd) (H0 hx) (H0 hy);rw [Nat.zero_add] at h;exact h,U8 (H1 hx) (H1 hy),by simp only [rO,rO',ho]⟩
theorem eIxO {e e' sz len off:Nat} {ag:Bool} {es:List D} {α:Type} {xs:List α} {q:α} [hu:Und P t (.slice e)] [ht:TS P e sz ag] (hN:B.N=n) (hx:opv x E=some (.sref nm sz off len)) (hy:opv y E=some (.d (.int k a))) (ho:look O nm=some (some (.row e' sz es))) (hi:idx ((xs.drop off).take len) a=some q) (hd:Nat.blt d n=true) :
  E1 P B ops E O ⟨some d,.indexAddr t x y,ty,pos,af,none⟩ d (opn x (.sref nm sz off len)++opn y (.d (.int k a))) [(nm,.row e' sz es)] (.ptr nm ((off+a.toNat)*sz) [off+a.toNat]) :=
 ⟨OpJ.indexS hu.h ht.h (A5s hi).1 (A5s hi).2 (ltN hN hd) (H0 hx) (H0 hy),U8 (H1 hx) (H1 hy),by simp only [rO,rO',ho]⟩
theorem eXt {vs:List V} {i:Nat} (hN:B.N=n) (hx:opv x E=some (.tup vs)) (hi:vs[i]? = some v) (hnt:v.isTop=false) (hd:Nat.blt d n=true):E1 P B ops E O ⟨some d,.extract x i,ty,pos,af,none⟩ d (opn x (.tup vs)) [] v:=mk1 hx (OpJ.extract hi hnt (ltN hN hd))
theorem eNcP {obj:Ob} (hN:B.N=n) (hx:opv x E=some (.ptr nm off p)) (ho:look O nm=some (some obj)) (hd:Nat.blt d n=true):E1 P B ops E O ⟨some d,.nilCheck x,ty,pos,af,none⟩ d (opn x (.ptr nm off p)) [(nm,obj)] (.ptr nm off p) :=
 ⟨OpJ.nilP (ltN hN hd) (H0 hx),H1 hx,by simp only [rO,rO',ho]⟩
theorem eNcD {e:D} (hN:B.N=n) (hx:opv x E=some (.dptr e)) (hd:Nat.blt d n=true):E1 P B ops E O ⟨some d,.nilCheck x,ty,pos,af,none⟩ d (opn x (.dptr e)) [] (.dptr e):=mk1 hx (OpJ.nilD (ltN hN hd))
-- lengths
theorem eLnD {e sz:Nat} {es:List D} {α:Type} {f:α→D} {xs:List α} [hu:Und P t (.slice e)] [Emb P e α f] (hN:B.N=n) (hx:opv x E=some (.d (.list sz es))) (hes:es=xs.map f) (hd:Nat.blt d n=true) :
  E1 P B ops E O ⟨some d,.call { callee:=.builtin .len,args:=#[x],argTypes:=#[t] },ty,pos,af,none⟩ d (opn x (.d (.list sz es))) [] (i6 (xs.length:Int)):=mk1 hx fun h=>OpJ.val (by rw [hes,List.length_map]) (OpJ.lenD hu.h (ltN hN hd) h)
theorem eLnL {e sz:Nat} {es:List D} [hu:Und P t (.slice e)] (hN:B.N=n) (hx:opv x E=some (.d (.list sz es))) (hd:Nat.blt d n=true) :
  E1 P B ops E O ⟨some d,.call { callee:=.builtin .len,args:=#[x],argTypes:=#[t] },ty,pos,af,none⟩ d (opn x (.d (.list sz es))) [] (i6 (es.length:Int)):=mk1 hx (OpJ.lenD hu.h (ltN hN hd))
theorem eLnN {e:Nat} [hu:Und P t (.slice e)] (hN:B.N=n) (hx:opv x E=some .nils) (hd:Nat.blt d n=true) :
  E1 P B ops E O ⟨some d,.call { callee:=.builtin .len,args:=#[x],argTypes:=#[t] },ty,pos,af,none⟩ d (opn x .nils) [] (i6 0):=mk1 hx (OpJ.lenN hu.h (ltN hN hd))
theorem eLnS {e sz len:Nat} {obj:Ob} [hu:Und P t (.slice e)] (hN:B.N=n) (hx:opv x E=some (.sref nm sz off len)) (ho:look O nm=some (some obj)) (hd:Nat.blt d n=true) :
  E1 P B ops E O ⟨some d,.call { callee:=.builtin .len,args:=#[x],argTypes:=#[t] },ty,pos,af,none⟩ d (opn x (.sref nm sz off len)) [(nm,obj)] (i6 (len:Int)):=⟨OpJ.lenS hu.h (ltN hN hd) (H0 hx),H1 hx,by simp only [rO,rO',ho]⟩
theorem eLnT {s:List UInt8} [hu:Und P t .string] (hN:B.N=n) (hx:opv x E=some (.d (.str s))) (hd:Nat.blt d n=true) :
  E1 P B ops E O ⟨some d,.call { callee:=.builtin .len,args:=#[x],argTypes:=#[t] },ty,pos,af,none⟩ d (opn x (.d (.str s))) [] (i6 (s.length:Int)):=mk1 hx (OpJ.lenStr hu.h (ltN hN hd))
theorem eMin {t':TypeId} (hN:B.N=n) (hx:opv x E=some (.d (.int k a))) (hy:opv y E=some (.d (.int k b))) (hd:Nat.blt d n=true):E1 P B ops E O ⟨some d,.call { callee:=.builtin .min,args:=#[x,y],argTypes:=#[t,t'] },ty,pos,af,none⟩ d (opn x (.d (.int k a))++opn y (.d (.int k b))) [] (.d (.int k (minI a b))):=mk2 hx hy (OpJ.min (ltN hN hd))
theorem eMax {t':TypeId} (hN:B.N=n) (hx:opv x E=some (.d (.int k a))) (hy:opv y E=some (.d (.int k b))) (hd:Nat.blt d n=true):E1 P B ops E O ⟨some d,.call { callee:=.builtin .max,args:=#[x,y],argTypes:=#[t,t'] },ty,pos,af,none⟩ d (opn x (.d (.int k a))++opn y (.d (.int k b))) [] (.d (.int k (maxI a b))):=mk2 hx hy (OpJ.max (ltN hN hd))
theorem eTx {s:List UInt8} {c:UInt8} [hu:Und P t .string] (hN:B.N=n) (hx:opv x E=some (.d (.str s))) (hy:opv y E=some (.d (.int k a))) (hi:idx s a=some c) (hd:Nat.blt d n=true):E1 P B ops E O ⟨some d,.index t x y,ty,pos,af,none⟩ d (opn x (.d (.str s))++opn y (.d (.int k a))) [] (.d (.int .u8 (c.toNat:Int))) :=
 mk2 hx hy (OpJ.indexStr hu.h (E9 hi).1 (E9 hi).2 (ltN hN hd))
end
end Go.Vc
