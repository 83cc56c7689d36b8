/- Short forms of the rules that the printer uses most: they save text, nothing else. -/
import Derived.Test.YtkhjkjojjdkidaaGreatDoorVcT
import Derived.KernelRfl
import Derived.Test.YtkhjkjojjdkidaaGreatDoorVcM
namespace Go.Vc
open Go
variable {P:Program} {B:Base} {ops:Array Oper}
@[reducible] def i6 (x:Int):V:=.d (.int .i64 x)
@[reducible] def bo (b:Bool):V:=.d (.bool b)
section
variable {d n:Nat} {ty:TypeId} {pos:String} {af:Array Edge} {nt nt':List (Nat×V)} {x y:Operand}
theorem mv {v:V} (hN:B.N=n) (hx:Opd x v nt) (h:Nat.blt d n=true:=by rfl):OpJ P B ops ⟨some d,.move x,ty,pos,af,none⟩ { nt,wt:=[(d,v)] }:=OpJ.move (ltN hN h) hx
theorem ov {o:Oper} {no:List (Nat×Ob)} {nf:List Nat} {v:V} {wo:OL} (v':V) (h:OpJ P B ops o { nt,no,nf,wt:=[(d,v)],wo:=wo }) (e:v=v':=by rfl):OpJ P B ops o { nt,no,nf,wt:=[(d,v')],wo }:=OpJ.val e h
theorem op {o:Op} {α:Eff} {j:Nat} {want:Bool} {gv:V} {g:Bool} (hN:B.N=n) (gt:Nat) (v:V) (h:OpJ P B ops ⟨some d,o,ty,pos,af,none⟩ α) (hl:OptL g α.nt nt') (hgv:GuardV want gv g) (hgd:(ops[j]?).bind (·.dst)=some gt:=by rfl)
  (hd:Nat.blt d n=true:=by rfl) (hv:v.isTop=false:=by rfl) (hwt:α.wt=[(d,v)]:=by rfl) (hwo:α.wo=[]:=by rfl) (hnf:α.nf=[]:=by rfl) :
  OpJ P B ops ⟨some d,o,ty,pos,af,some (j,want)⟩ { nt:=(gt,gv) :: nt',no:=α.no,wt:=[(d,.opt g v)] }:=OpJ.opt' h hgd hgv (ltN hN hd) hv hwt hwo hnf hl
theorem lb {t:TypeId} {m:Nat} {ag:Bool} {nm off:Nat} {p:List Nat} (hN:B.N=n) (bt:TypeId) (c v:V) (ht:TyS P t m ag) (hat:At c p off v) (hx:Opd x (.ptr nm off p) nt) (hag:v.isAgg=ag:=by rfl) (hsz:v.sz=m:=by rfl) (hnt:v.isTop=false:=by rfl) (hd:Nat.blt d n=true:=by rfl) :
  OpJ P B ops ⟨some d,.load t x,ty,pos,af,none⟩ { nt,no:=[(nm,.box bt c)],wt:=[(d,v)] }:=OpJ.loadB ht hat hag hsz hnt (ltN hN hd) hx
theorem fp {s:TypeId} {fs:Array Field} {f:Nat} {fl:Field} {m:Nat} {ag:Bool} (hN:B.N=n) (hs:P.underlying s=some (.struct fs)) (o:Nat) (ht:TyS P fl.type (m+1) ag) {nm off:Nat} {p:List Nat} (obj:Ob) (hx:Opd x (.ptr nm off p) nt)
  (hf:fs[f]? = some fl:=by rfl) (ho:fl.offset=o:=by rfl) (hd:Nat.blt d n=true:=by rfl) :
  OpJ P B ops ⟨some d,.fieldAddr s x f,ty,pos,af,none⟩ { nt,no:=[(nm,obj)],wt:=[(d,.ptr nm (off+o) (p++[f]))] }:=OpJ.fieldP hs hf ho ht (Nat.succ_ne_zero m) (ltN hN hd) hx
end
section
variable {d:Nat} {ty xt yt:TypeId} {pos:String} {af:Array Edge} {nt nt':List (Nat×V)} {x y:Operand} {m n:Int}
theorem sub6 (hN:d<B.N) (hx:Opd x (.d (.int .i64 m)) nt) (hy:Opd y (.d (.int .i64 n)) nt'):OpJ P B ops ⟨some d,.binOp .sub xt x y yt,ty,pos,af,none⟩ { nt:=nt++nt',wt:=[(d,.d (.int .i64 (w64 (m-n))))] }:=OpJ.sub hN hx hy
end
theorem mp {E:EL} {O:OL} (R:List (Nat×Nat)) (E':EL) (O':OL) (hB:B.ok) (hok:okPat R E' O'=true:=by rfl) (hE:patE E' E=patE' R E':=by rfl) (hO:patO R O' O=patO' R O':=by rfl):Mat B E O E' O':=Mat.pat R E' O' hB hok hE hO
theorem ad {fs:List D} {i o off':Nat} (f:D) (hf:fs[i]? = some f:=by rfl) (ho:D.szL (fs.take i)=o:=by rfl) (he:off'=o+0:=by first | rfl | omega):At (.d (.st fs)) [i] off' (.d f):=At.dst1 hf ho (At.here _) he
end Go.Vc
/- Shorter forms still: a region is walked operation by operation; what it reads is found by looking it up. -/
namespace Go.Vc
open Go
variable {P:Program} {B:Base} {E:EL} {O:OL} {Q:Exit→EL→OL→Prop} {ops:Array Oper}
def rE (E:EL):EL→List (Option V)
 | []=>[]
 | p :: l=>look E p.1 :: rE E l
def rE':EL→List (Option V)
 | []=>[]
 | p :: l=>some p.2 :: rE' l
def rO (O:OL):List (Nat×Ob)→List (Option (Option Ob))
 | []=>[]
 | p :: l=>look O p.1 :: rO O l
def rO':List (Nat×Ob)→List (Option (Option Ob))
 | []=>[]
 | p :: l=>some (some p.2) :: rO' l
def rF (O:OL):List Nat→List (Option (Option Ob))
 | []=>[]
 | n :: l=>look O n :: rF O l
def rF':List Nat→List (Option (Option Ob))
 | []=>[]
 | _ :: l=>none :: rF' l
def ap {α:Type}:List (Nat×α)→List (Nat×α)→List (Nat×α)
 | [],l=>l
 | x :: xs,l=>x :: ap xs l
theorem B2v {α:Type}:∀ (xs l:List (Nat×α)),ap xs l=xs++l
 | [],_=>rfl
 | x :: xs,l=>by rw [ap,B2v xs l];rfl
theorem B19 (E:EL):∀ l:EL,rE E l=l.map fun p=>look E p.1
 | []=>rfl
 | p :: l=>by rw [rE,B19 E l];rfl
theorem A8m:∀ l:EL,rE' l=l.map fun p=>some p.2
 | []=>rfl
 | p :: l=>by rw [rE',A8m l];rfl
theorem B4e (O:OL):∀ l:List (Nat×Ob),rO O l=l.map fun p=>look O p.1
 | []=>rfl
 | p :: l=>by rw [rO,B4e O l];rfl
theorem B26:∀ l:List (Nat×Ob),rO' l=l.map fun p=>some (some p.2)
 | []=>rfl
 | p :: l=>by rw [rO',B26 l];rfl
theorem B4f (O:OL):∀ l:List Nat,rF O l=l.map fun n=>look O n
 | []=>rfl
 | p :: l=>by rw [rF,B4f O l];rfl
theorem B27:∀ l:List Nat,rF' l=l.map fun _=>none
 | []=>rfl
 | p :: l=>by rw [rF',B27 l];rfl
structure Sq (P:Program) (B:Base) (ops:Array Oper) (E:EL) (O:OL) (os:List Oper) (l:List Eff) (E':EL) (O':OL):Prop where
 js:OpJs P B ops os l
 e:wantE l E=wantE' l
 o:wantO l O=wantO' l
 fe:putE l E=E'
 fo:putO l O=O'
theorem rt {E1:EL} {O1:OL} {rs:List ResultVar} {res:V} {robs:OL} (m:Mat B E O E1 O1) (vs:List V) (hr:Res P E1 O1 rs vs) (h1:res=resV vs) (h2:okPat [] [] robs=true:=by rfl) (h3:patO [] robs O1=patO' [] robs:=by rfl) (h4:(V.namesL vs).all (fun n=>memB n (keys robs))=true:=by rfl):Fin2 P B rs res robs .ret E O :=
 ⟨.inl rfl,_,_,m,vs,hr,h1,h2,h3,h4⟩
theorem ac2 {f:FuncId} {fn:Func} {c:Code} {args:List V} {pobs:List (Nat×Ob)} {res:V} {robs:OL} (hf:P.funcs[f]? = some fn) (hb:fn.body=some c) (hnt:args.all noTupB=true)
  (h:∀ B:Base,B.ok→B.N=fn.ntmps→(∀ {d:Nat},Nat.blt d fn.ntmps=true→d<B.N)→AWp P B c (Fin2 P B fn.results.toList res robs) (argE 0 args) (pobs.map fun p=>(p.1,some p.2))) (hle:Nat.ble args.length fn.ntmps=true:=by rfl) (hnr:pobs.all (fun p=>p.2.noReg)=true:=by rfl):AC P f args pobs res robs :=
 AC.of_code2 hf hb hnt (Nat.le_of_ble_eq_true hle) (fun B hB hN=>h B hB hN fun hd=>ltN hN hd) hnr
theorem ii (n:Int):Opd (.const (.int .i64 n)) (.d (.int .i64 n)) []:=Opd.int .i64 n
theorem oi {α:Type} {a b:α} (h:some a=some b):a=b:=Option.some.inj h
theorem bft (b:Bool):b=true∨b=false:=Bool.eq_false_or_eq_true b
abbrev pt (n:Nat):V:=.ptr n 0 []
abbrev bd (t:TypeId) (x:D):Option Ob:=some (.box t (.d x))
theorem cn:Sq P B ops E O [] [] E O:=⟨.nil,rfl,rfl,rfl,rfl⟩
theorem cg {o:Oper} {os:List Oper} {α:Eff} {l:List Eff} {E':EL} {O':OL} (h:OpJ P B ops o α) (e:(rE E α.nt,rO O α.no,rF O α.nf)=(rE' α.nt,rO' α.no,rF' α.nf)) (k:Sq P B ops (ap α.wt E) (ap α.wo O) os l E' O'):Sq P B ops E O (o :: os) (α :: l) E' O':=by
 simp only [Prod.mk.injEq,B19,A8m,B4e,B26,B4f,B27] at e
 obtain⟨e1,e2,e3⟩:=e
 obtain⟨k1,k2,k3,k4,k5⟩:=k
 rw [B2v] at k2 k3 k4 k5
 exact⟨.cons h k1,by simp only [wantE,wantE',e1,k2],by simp only [wantO,wantO',e2,e3,k3],k4,k5⟩
theorem c {o:Oper} {os:List Oper} {l:List Eff} {E':EL} {O':OL} {nt:EL} {no:List (Nat×Ob)} {d:Nat} {v:V} (h:OpJ P B ops o { nt,no,nf:=[],wt:=[(d,v)],wo:=[] }) (e:(rE E nt,rO O no)=(rE' nt,rO' no)) (k:Sq P B ops ((d,v) :: E) O os l E' O') :
  Sq P B ops E O (o :: os) ({ nt,no,nf:=[],wt:=[(d,v)],wo:=[] } :: l) E' O' :=
 cg h (by rw [Prod.mk.injEq] at e;simp only [e.1,e.2];rfl) k
theorem rg {id:Nat} {l:List Oper} {effs:List Eff} {E':EL} {O':OL} (s:Sq P B l.toArray E O l effs E' O') (h:Q .normal E' O'):AWp P B (.region id l.toArray false) Q E O:=by
 obtain⟨k1,k2,k3,rfl,rfl⟩:=s
 exact AWp.region k1 k2 k3 h
theorem dr {id:Nat} {l:List Oper} {effs:List Eff} {E':EL} {O':OL} (s:Sq P B l.toArray E O l effs E' O') (hm:P.follows .mixedOrders=true) (hc:noConf l.toArray effs=true) (h:Q .normal E' O'):AWp P B (.region id l.toArray true) Q E O:=by
 obtain⟨k1,k2,k3,rfl,rfl⟩:=s
 exact AWp.draws hm k1 hc k2 k3 h
theorem kp (E':EL) (O':OL) (hB:B.ok) (hE:rE E E'=rE' E') (hO:O'.map (fun p=>look O p.1)=O'.map (fun p=>some p.2)) (hok:okPat [] E' O'=true):Mat B E O E' O':=by
 have rid:∀ n,rnm [] n=n:=fun _=>rfl
 rw [B19,A8m] at hE
 refine Mat.pat [] E' O' hB hok ?_ ?_
 ·unfold patE patE'
  rw [hE]
  refine List.map_congr_left fun p _ => ?_
  rw [V.ren_id rid]
 ·unfold patO patO'
  refine List.map_congr_left fun p hp => ?_
  have:=Q1 hO p hp
  obtain⟨k,o⟩:=p
  cases o with
  | none=>rfl
  | some o =>
   simp only at this ⊢
   rw [rid,this]
   cases o with
   | box t v=>show _=some (some (Ob.box t (v.ren (rnm []))));rw [V.ren_id rid]
   | row e sz es=>rfl
   | blk s=>rfl
   | know k=>rfl
   | reg r=>rfl
theorem gh {c:Code} (E':EL) (O':OL) (hB:B.ok) (hE:rE E E'=rE' E') (hO:O'.map (fun p=>look O p.1)=O'.map (fun p=>some p.2)) (hok:okPat [] E' O'=true) (hc:AWp P B c Q E' O'):AWp P B c Q E O:=AWp.ghost (kp E' O' hB hE hO hok) hc
theorem sr {id:Nat} {l:List Oper} {effs:List Eff} {E':EL} {O':OL} {c2:Code} (s:Sq P B l.toArray E O l effs E' O') (h:AWp P B c2 Q E' O'):AWp P B (.seq (.region id l.toArray false) c2) Q E O:=AWp.seq (rg s (A0 h))
theorem sd {id:Nat} {l:List Oper} {effs:List Eff} {E':EL} {O':OL} {c2:Code} (s:Sq P B l.toArray E O l effs E' O') (hm:P.follows .mixedOrders=true) (hc:noConf l.toArray effs=true) (h:AWp P B c2 Q E' O'):AWp P B (.seq (.region id l.toArray true) c2) Q E O:=AWp.seq (dr s hm hc (A0 h))
theorem q (t:Nat) {v:V}:Opd (.tmp t) v [(t,v)]:=Opd.tmp t v
theorem lg {S X:Type} {cc:Code} (tb:S→Option (X⊕S)) (pe:S→EL) (po:S→OL) (RX:X→Exit→EL→OL→Prop) {s:S} {x:X} (hl:Vc.loop tb s=some x) (m:Mat B E O (pe s) (po s))
  (hround:∀ s y,tb s=some y→AWp P B cc (fun e E' O'=>match y with | .inr s'=>e = .normal∧Mat B E' O' (pe s') (po s') | .inl x=>e ≠ .normal∧RX x e E' O') (pe s) (po s))
  (hq:∀ e E' O',RX x e E' O'→Q e E' O'):AWp P B (.loop cc) Q E O:=AWp.ghost m (AWp.loopS tb pe po RX hl hround hq)
section
variable {d n:Nat} {ty:TypeId} {pos:String} {af:Array Edge}
theorem sU {op:Op} {j:Nat} {want:Bool} (g:Nat) (hN:d<B.N) (hg:(ops[j]?).bind (·.dst)=some g:=by exact rfl) :
  OpJ P B ops ⟨some d,op,ty,pos,af,some (j,want)⟩ { nt:=[(g,.d (.bool (!want)))],wt:=[(d,.opt false .junk)] }:=OpJ.skipU hN hg
theorem ks {op:Op} {j:Nat} {want:Bool} {os:List Oper} {l:List Eff} {E':EL} {O':OL} (g:Nat) (hN:d<B.N) (k:Sq P B ops (ap [(d,.opt false .junk)] E) (ap [] O) os l E' O') (hg:(ops[j]?).bind (·.dst)=some g:=by exact rfl)
  (e:(rE E [(g,.d (.bool (!want)))],rO O [],rF O [])=(rE' [(g,.d (.bool (!want)))],rO' [],rF' []):=by exact rfl) :
  Sq P B ops E O (⟨some d,op,ty,pos,af,some (j,want)⟩ :: os) ({ nt:=[(g,.d (.bool (!want)))],wt:=[(d,.opt false .junk)] } :: l) E' O':=cg (sU g hN hg) e k
theorem gd {d:Option Nat} {op:Op} {α:Eff} {j:Nat} {want:Bool} (g:Nat) (h:OpJ P B ops ⟨d,op,ty,pos,af,none⟩ α) (hg:(ops[j]?).bind (·.dst)=some g:=by exact rfl) :
  OpJ P B ops ⟨d,op,ty,pos,af,some (j,want)⟩ { α with nt:=(g,.d (.bool want)) :: α.nt }:=OpJ.guarded hg h
theorem cf {f:FuncId} {xs:List Operand} {ts:Array TypeId} {args:List V} {pobs:List (Nat×Ob)} {res:V} {robs:OL} {nt:EL} (hB:B.ok) (hfn:FnOk P f) (hac:AC P f args pobs res robs) (hN:d<B.N)
  (hx:OpdL xs (V.renL (rnm []) args) nt) (hok:okCall [] args pobs robs=true:=by kernel_rfl) (hnt:(V.renL (rnm []) args).all noTupB=true:=by kernel_rfl) :
  OpJ P B ops ⟨some d,.call { callee:=.value (.func f),args:=xs.toArray,argTypes:=ts },ty,pos,af,none⟩ (callEff nt d [] pobs res robs):=OpJ.callFn hB hfn hac [] hok hN hnt hx
theorem apd {α:Type} {t e sz bytes:Nat} {nt nt':EL} {x y:Operand} (hB:B.ok) (hu:P.underlying t=some (.slice e)) (he:TyE P e sz bytes) {n:Nat} (nm:Nat) (f:α→D) (xs ys:List α) (hc:decide ((xs++ys).length≤LIM)=true) (hN:d<B.N)
  (hx:Opd x (.sref n sz 0 xs.length) nt) (hy:Opd y (.d (.list sz (ys.map f))) nt') (hnm:1000≤nm:=by decide) (hsz:∀ x,(f x).sz=sz:=by intro;rfl) (hb:Nat.ble bytes 32768=true:=by decide) :
  OpJ P B ops ⟨some d,.call { callee:=.builtin .append,args:=#[x,y],argTypes:=#[t,t] },ty,pos,af,none⟩
   { nt:=nt++nt',no:=[(n,.row e sz (xs.map f))],nf:=[nm],wt:=[(d,.sref nm sz 0 (xs++ys).length)],wo:=[(nm,some (.row e sz ((xs++ys).map f))),(n,none)] } :=
 OpJ.append hB hu he hnm (by simp) (by simp) (A45 hsz) (by rw [List.length_map];exact Y8 hc hb) (by rw [List.length_map];exact A2c hc) hN (by simp) hx hy
theorem sB {t:TypeId} {m:Nat} {ag:Bool} {nt nt':EL} {x y:Operand} (ht:TyS P t m ag) {nm:Nat} {bt:TypeId} {c v:V} (hx:Opd x (.ptr nm 0 []) nt) (hy:Opd y v nt') (hsz:v.sz=m:=by rfl) (hcs:v.sz=c.sz:=by rfl) (hj:v ≠ .junk:=by simp) (hnt:v.isTop=false:=by exact rfl) :
  OpJ P B ops ⟨none,.store t x y,ty,pos,af,none⟩ { nt:=nt++nt',no:=[(nm,.box bt c)],wo:=[(nm,some (.box bt v))] }:=OpJ.storeB ht (SetAt.here _ _) hsz hcs hj hnt hx hy
theorem fo {s:TypeId} {fs:Array Field} {f:Nat} {fl:Field} {m:Nat} {ag:Bool} {nt:EL} {x:Operand} (m' o':Nat) (p':List Nat) (hN:B.N=n) (hs:P.underlying s=some (.struct fs)) (o:Nat) (ht:TyS P fl.type (m+1) ag) {nm off:Nat} {p:List Nat} {obj:Ob} (hx:Opd x (.ptr nm off p) nt)
  (e:V.ptr nm (off+o) (p++[f]) = .ptr m' o' p':=by rfl) (hf:fs[f]? = some fl:=by rfl) (ho:fl.offset=o:=by rfl) (hd:Nat.blt d n=true:=by rfl) :
  OpJ P B ops ⟨some d,.fieldAddr s x f,ty,pos,af,none⟩ { nt,no:=[(nm,obj)],wt:=[(d,.ptr m' o' p')] }:=ov (.ptr m' o' p') (fp hN hs o ht obj hx hf ho hd) e
theorem la {t:TypeId} {m:Nat} {ag:Bool} {nt:EL} {x:Operand} {nm o off:Nat} {fs:List D} {i:Nat} {f:D} (hN:B.N=n) (bt:TypeId) (ht:TyS P t m ag) (hx:Opd x (.ptr nm off [i]) nt) (hf:fs[i]? = some f:=by rfl) (ho:D.szL (fs.take i)=o:=by rfl) (he:off=o+0:=by first | rfl | omega)
  (hag:(V.d f).isAgg=ag:=by rfl) (hsz:(V.d f).sz=m:=by rfl) (hnt:(V.d f).isTop=false:=by rfl) (hd:Nat.blt d n=true:=by rfl) :
  OpJ P B ops ⟨some d,.load t x,ty,pos,af,none⟩ { nt,no:=[(nm,.box bt (.d (.st fs)))],wt:=[(d,.d f)] }:=lb hN bt _ _ ht (At.dst1 hf ho (At.here _) he) hx hag hsz hnt hd
theorem oq {o:Op} {j:Nat} {want:Bool} {gv:V} {g:Bool} {nt nt':EL} {no:List (Nat×Ob)} {v:V} (hN:B.N=n) (gt:Nat) (h:OpJ P B ops ⟨some d,o,ty,pos,af,none⟩ { nt,no,nf:=[],wt:=[(d,v)],wo:=[] }) (hl:OptL g nt nt') (hgv:GuardV want gv g)
  (hgd:(ops[j]?).bind (·.dst)=some gt:=by rfl) (hd:Nat.blt d n=true:=by rfl) (hv:v.isTop=false:=by rfl) :
  OpJ P B ops ⟨some d,o,ty,pos,af,some (j,want)⟩ { nt:=(gt,gv) :: nt',no,nf:=[],wt:=[(d,.opt g v)],wo:=[] }:=OpJ.opt' h hgd hgv (ltN hN hd) hv rfl rfl rfl hl
end
end Go.Vc
