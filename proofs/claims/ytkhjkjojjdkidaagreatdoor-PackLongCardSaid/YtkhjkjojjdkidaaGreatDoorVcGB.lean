/- Operations by evaluation that make or write memory; calls; a region walked by search. -/
import Derived.Test.YtkhjkjojjdkidaaGreatDoorVcGA
namespace Go.Vc
open Go
variable {P:Program} {B:Base} {ops:Array Oper} {E:EL} {O:OL}
def setL {α:Type}:List α→Nat→α→Option (List α)
 | [],_,_=>none
 | _ :: l,0,y=>some (y :: l)
 | x :: l,i+1,y=>match setL l i y with
  | some m=>some (x :: m)
  | none=>none
theorem A64 {α:Type}:∀ {l m:List α} {i:Nat} {y:α},setL l i y=some m→m=l.set i y
 | [],_,_,_,h=>by simp [setL] at h
 | _ :: _,_,0,_,h=>by simp [setL] at h;simp [h]
 | _ :: l,m,i+1,y,h=>by
  simp only [setL] at h
  split at h
  ·rename_i m' hm
   cases h
   rw [A64 hm];rfl
  ·cases h
def setV:List Nat→V→V→Option (Nat×V)
 | [],_,y=>some (0,y)
 | i :: p,.st fs,y=>match fs[i]? with
  | some f=>match setV p f y with
   | some (o,f')=>match Nat.beq f'.sz f.sz,setL fs i f' with
    | true,some gs=>some (V.szL (fs.take i)+o,.st gs)
    | _,_=>none
   | none=>none
  | none=>none
 | i :: p,.d (.st ds),y=>match ds[i]? with
  | some f=>match setV p (.d f) y with
   | some (o,.d f')=>match Nat.beq f'.sz f.sz,setL ds i f' with
    | true,some gs=>some (D.szL (ds.take i)+o,.d (.st gs))
    | _,_=>none
   | some (o,f')=>match Nat.beq f'.sz f.sz,setL (ds.map .d) i f' with
    | true,some gs=>some (V.szL ((ds.map V.d).take i)+o,.st gs)
    | _,_=>none
   | none=>none
  | none=>none
 | _,_,_=>none
theorem A65:∀ {p:List Nat} {x y z:V} {o:Nat},setV p x y=some (o,z)→SetAt x p o y z
 | [],x,y,z,o,h=>by
  simp only [setV,Option.some.injEq,Prod.mk.injEq] at h
  obtain⟨rfl,rfl⟩:=h
  exact SetAt.here _ _
 | i :: p,.st fs,y,z,o,h=>by
  simp only [setV] at h
  split at h
  ·rename_i f hf
   split at h
   ·rename_i o' f' hs
    split at h
    ·rename_i gs hb hg
     cases h
     rw [A64 hg]
     exact SetAt.st hf rfl (A65 hs) (Nat.eq_of_beq_eq_true hb)
    ·cases h
   ·cases h
  ·cases h
 | i :: p,.d (.st ds),y,z,o,h=>by
  simp only [setV] at h
  split at h
  ·rename_i f hf
   split at h
   ·rename_i o' f' hs
    split at h
    ·rename_i gs hb hg
     cases h
     rw [A64 hg]
     exact SetAt.dst hf rfl (A65 hs) (Nat.eq_of_beq_eq_true hb)
    ·cases h
   ·rename_i o' f' hne hs
    split at h
    ·rename_i gs hb hg
     cases h
     rw [A64 hg]
     exact SetAt.lift (SetAt.st (f:=.d f) (by rw [List.getElem?_map,hf];rfl) rfl (A65 hs) (Nat.eq_of_beq_eq_true hb))
    ·cases h
   ·cases h
  ·cases h
 | i :: p,.d (.bool _),y,z,o,h=>by simp [setV] at h
 | i :: p,.d (.int _ _),y,z,o,h=>by simp [setV] at h
 | i :: p,.d (.str _),y,z,o,h=>by simp [setV] at h
 | i :: p,.d (.arr _ _ _),y,z,o,h=>by simp [setV] at h
 | i :: p,.d (.list _ _),y,z,o,h=>by simp [setV] at h
 | i :: p,.junk,y,z,o,h=>by simp [setV] at h
 | i :: p,.nils,y,z,o,h=>by simp [setV] at h
 | i :: p,.ptr ..,y,z,o,h=>by simp [setV] at h
 | i :: p,.dptr ..,y,z,o,h=>by simp [setV] at h
 | i :: p,.sref ..,y,z,o,h=>by simp [setV] at h
 | i :: p,.func ..,y,z,o,h=>by simp [setV] at h
 | i :: p,.tup ..,y,z,o,h=>by simp [setV] at h
 | i :: p,.opt ..,y,z,o,h=>by simp [setV] at h
 | i :: p,.mref ..,y,z,o,h=>by simp [setV] at h
 | i :: p,.full ..,y,z,o,h=>by simp [setV] at h
def V.isJunk:V→Bool
 | .junk=>true
 | _=>false
theorem V.notJunk {v:V} (h:v.isJunk=false):v ≠ .junk:=fun e=>by rw [e] at h;cases h
-- values as data: the zero tells of what type a nil is
mutual
def coZ:D→V→Option D
 | _,.d x=>some x
 | .list sz _,.nils=>some (.list sz [])
 | .st zs,.st fs=>match coZL zs fs with
  | some ds=>some (.st ds)
  | none=>none
 | _,_=>none
def coZL:List D→List V→Option (List D)
 | [],[]=>some []
 | z :: zs,f :: fs=>match coZ z f with
  | some d=>match coZL zs fs with
   | some ds=>some (d :: ds)
   | none=>none
  | none=>none
 | _,_=>none
end
mutual
theorem B46:∀ {v:V} {z y:D},coZ z v=some y→Co v y
 | .d x,z,y,h=>by
  cases z<;>(simp only [coZ,Option.some.injEq] at h;subst h;exact Co.d _)
 | .nils,z,y,h=>by
  cases z<;>simp only [coZ,Option.some.injEq] at h
  all_goals first | (subst h;exact Co.nils _) | cases h
 | .st fs,z,y,h=>by
  cases z with
  | st zs =>
   simp only [coZ] at h
   split at h
   ·rename_i ds hd;cases h;exact Co.st (B2n hd)
   ·cases h
  | _=>simp [coZ] at h
 | .junk,z,y,h=>by cases z<;>simp [coZ] at h
 | .ptr ..,z,y,h=>by cases z<;>simp [coZ] at h
 | .dptr ..,z,y,h=>by cases z<;>simp [coZ] at h
 | .sref ..,z,y,h=>by cases z<;>simp [coZ] at h
 | .func ..,z,y,h=>by cases z<;>simp [coZ] at h
 | .tup ..,z,y,h=>by cases z<;>simp [coZ] at h
 | .opt ..,z,y,h=>by cases z<;>simp [coZ] at h
 | .mref ..,z,y,h=>by cases z<;>simp [coZ] at h
 | .full ..,z,y,h=>by cases z<;>simp [coZ] at h
theorem B2n:∀ {fs:List V} {zs ys:List D},coZL zs fs=some ys→CoL fs ys
 | [],zs,ys,h=>by
  cases zs<;>simp [coZL] at h
  subst h;exact CoL.nil
 | f :: fs,zs,ys,h=>by
  cases zs with
  | nil=>simp [coZL] at h
  | cons z zs =>
   simp only [coZL] at h
   split at h
   ·rename_i d hd
    split at h
    ·rename_i ds hds;cases h;exact CoL.cons (B46 hd) (B2n hds)
    ·cases h
   ·cases h
end
-- parts of a literal
def opvs:List (Nat×Operand)→EL→Option (List (Nat×V))
 | [],_=>some []
 | (i,x) :: l,E=>match opv x E with
  | some v=>match opvs l E with
   | some vs=>some ((i,v) :: vs)
   | none=>none
  | none=>none
def opns:List (Nat×Operand)→List (Nat×V)→EL
 | (_,x) :: l,(_,v) :: vs=>opn x v++opns l vs
 | _,_=>[]
theorem A44:∀ {l:List (Nat×Operand)} {vs:List (Nat×V)},opvs l E=some vs→Opds l vs (opns l vs)∧rE E (opns l vs)=rE' (opns l vs)
 | [],vs,h=>by simp only [opvs,Option.some.injEq] at h;subst h;exact⟨.nil,rfl⟩
 | (i,x) :: l,vs,h=>by
  simp only [opvs] at h
  split at h
  ·rename_i v hv
   split at h
   ·rename_i ws hw
    cases h
    obtain⟨a,b⟩:=A44 hw
    exact⟨.cons (H0 hv) a,U8 (H1 hv) b⟩
   ·cases h
  ·cases h
def cods (z:D):List (Nat×V)→Option (List (Nat×V))
 | []=>some []
 | (i,v) :: l=>match coZ z v with
  | some d=>match cods z l with
   | some ds=>some ((i,.d d) :: ds)
   | none=>none
  | none=>none
theorem Opds.co {z:D}:∀ {l:List (Nat×Operand)} {vs ws:List (Nat×V)} {nt:EL},Opds l vs nt→cods z vs=some ws→Opds l ws nt
 | _,_,ws,_,.nil,h=>by simp only [cods,Option.some.injEq] at h;subst h;exact .nil
 | _,_,ws,_,.cons hx k,h=>by
  simp only [cods] at h
  split at h
  ·rename_i d hd
   split at h
   ·rename_i ds hds;cases h;exact .cons (Opd.co (B46 hd) hx) (Opds.co k hds)
   ·cases h
  ·cases h
def setP:List V→List (Nat×V)→Option (List V)
 | cur,[]=>some cur
 | cur,(i,x) :: ps=>match setL cur i x with
  | some c=>setP c ps
  | none=>none
theorem A7x:∀ {ps:List (Nat×V)} {cur r:List V},setP cur ps=some r→r=setParts cur ps
 | [],cur,r,h=>by simp only [setP,Option.some.injEq] at h;subst h;rfl
 | (i,x) :: ps,cur,r,h=>by
  simp only [setP] at h
  split at h
  ·rename_i c hc;rw [setParts,← A64 hc];exact A7x h
  ·cases h
def allD:List V→Option (List D)
 | []=>some []
 | .d x :: l=>match allD l with
  | some ds=>some (x :: ds)
  | none=>none
 | _=>none
theorem B04:∀ {l:List V} {ds:List D},allD l=some ds→ds.map V.d=l
 | [],ds,h=>by simp only [allD,Option.some.injEq] at h;subst h;rfl
 | x :: l,ds,h=>by
  cases x with
  | d x =>
   simp only [allD] at h
   split at h
   ·rename_i es he;cases h;rw [List.map_cons,B04 he]
   ·cases h
  | _=>simp [allD] at h
theorem B2o:∀ ds:List D,CoL (ds.map V.d) ds
 | [] => .nil
 | d :: ds => .cons (.d d) (B2o ds)
section
variable {d n:Nat} {ty xt yt t:TypeId} {pos:String} {af:Array Edge} {x y z:Operand} {v w:V} {k k':IntKind} {a b:Int} {nm off:Nat} {p:List Nat}
theorem eAl {zv:V} [hz:TZ P t zv] (hB:B.ok) (hN:B.N=n) (hf:look O (1000+d)=none) (hd:Nat.blt d n=true):EG P B ops E O ⟨some d,.alloc t,ty,pos,af,none⟩ { nt:=[],no:=[],nf:=[1000+d],wt:=[(d,.ptr (1000+d) 0 [])],wo:=[(1000+d,some (.box t zv))] } :=
 ⟨OpJ.alloc hB hz.h (Nat.le_add_right ..) (ltN hN hd),rfl,rfl,by simp only [rF,rF',hf]⟩
theorem eBx (hB:B.ok) (hN:B.N=n) (hx:opv x E=some v) (hf:look O (1000+d)=none) (hj:v.isJunk=false) (ht:v.isTop=false) (hd:Nat.blt d n=true):EG P B ops E O ⟨some d,.box t x,ty,pos,af,none⟩ { nt:=opn x v,no:=[],nf:=[1000+d],wt:=[(d,.ptr (1000+d) 0 [])],wo:=[(1000+d,some (.box t v))] } :=
 ⟨OpJ.box hB (Nat.le_add_right ..) (V.notJunk hj) ht (ltN hN hd) (H0 hx),H1 hx,rfl,by simp only [rF,rF',hf]⟩
theorem eSt {m:Nat} {ag:Bool} {bt:TypeId} {c c':V} {o:Nat} [ht:TS P t m ag] (hx:opv x E=some (.ptr nm off p)) (hy:opv y E=some v) (ho:look O nm=some (some (.box bt c))) (hs:setV p c v=some (o,c')) (ho2:o=off) (hsz:v.sz=m) (hcs:c'.sz=c.sz) (hj:v.isJunk=false) (hnt:v.isTop=false) :
  EG P B ops E O ⟨none,.store t x y,ty,pos,af,none⟩ { nt:=opn x (.ptr nm off p)++opn y v,no:=[(nm,.box bt c)],nf:=[],wt:=[],wo:=[(nm,some (.box bt c'))] } :=
 ⟨OpJ.storeB ht.h (ho2 ▸ A65 hs) hsz hcs (V.notJunk hj) hnt (H0 hx) (H0 hy),U8 (H1 hx) (H1 hy),by simp only [rO,rO',ho],rfl⟩
theorem eBd {places:List (Nat×Nat)} {zs r:List V} {parts:List (Nat×Operand)} {vs:List (Nat×V)} {ds:List D} [hf:TP P t places] [hz:TZL P t zs] (hN:B.N=n) (hx:opvs parts E=some vs) (hok:okParts places zs vs=true) (hr:setP zs vs=some r) (ha:allD r=some ds) (hd:Nat.blt d n=true) :
  E1 P B ops E O ⟨some d,.build t parts.toArray,ty,pos,af,none⟩ d (opns parts vs) [] (.d (.st ds)) :=
 ⟨OpJ.coe (Co.st (B04 ha ▸ B2o ds)) rfl (let ⟨_,hf⟩:=hf.h;OpJ.build hf hz.h (A44 hx).1 hok (by rw [A7x hr]) (ltN hN hd)),(A44 hx).2,rfl⟩
theorem eBv {places:List (Nat×Nat)} {zs r:List V} {parts:List (Nat×Operand)} {vs:List (Nat×V)} [hf:TP P t places] [hz:TZL P t zs] (hN:B.N=n) (hx:opvs parts E=some vs) (hok:okParts places zs vs=true) (hr:setP zs vs=some r) (hd:Nat.blt d n=true) :
  E1 P B ops E O ⟨some d,.build t parts.toArray,ty,pos,af,none⟩ d (opns parts vs) [] (.st r) :=
 ⟨let ⟨_,hf⟩:=hf.h;OpJ.build hf hz.h (A44 hx).1 hok (by rw [A7x hr]) (ltN hN hd),(A44 hx).2,rfl⟩
theorem eBs {e sz m:Nat} {ag:Bool} {zd:D} {parts:List (Nat×Operand)} {us vs:List (Nat×V)} {r:List V} {es:List D} [hu:Und P t (.slice e)] [ht:TS P e sz ag] [hz:TZD P e zd] (hN:B.N=n) (hx:opvs parts E=some us) (hc:cods zd us=some vs)
  (hr:setP (List.replicate m (.d zd)) vs=some r) (ha:allD r=some es) (hok:okParts ((List.range m).map fun i=>(i*sz,sz)) (List.replicate m (.d zd)) vs=true) (hzs:Nat.beq zd.sz sz=true) (h0:Nat.blt 0 sz=true) (h24:Nat.ble (m*sz) 16777216=true) (hel:Nat.beq es.length m=true) (hsz:D.szs sz es=true) (hp:(parts.all fun p=>Nat.blt p.1 m)=true) (hd:Nat.blt d n=true) :
  E1 P B ops E O ⟨some d,.buildSlice t m parts.toArray,ty,pos,af,none⟩ d (opns parts us) [] (.d (.list sz es)) :=
 ⟨OpJ.buildSlice hu.h ht.h hz.h (Nat.eq_of_beq_eq_true hzs) (Nat.lt_of_succ_le (Nat.le_of_ble_eq_true h0)) (Nat.le_of_ble_eq_true h24) ((A44 hx).1.co hc) hok (by rw [B04 ha,A7x hr]) (Nat.eq_of_beq_eq_true hel) hsz
  (fun p hp'=>Nat.lt_of_succ_le (Nat.le_of_ble_eq_true (List.all_eq_true.1 hp p hp'))) (ltN hN hd),(A44 hx).2,rfl⟩
theorem eAp {e sz bytes n0 len:Nat} {es ys':List D} {α:Type} {f:α→D} {xs ys:List α} [hu:Und P t (.slice e)] [he:TE P e sz bytes] [hm:Emb P e α f] (hB:B.ok) (hN:B.N=n) (hx:opv x E=some (.sref n0 sz 0 len)) (hy:opv y E=some (.d (.list sz ys'))) (ho:look O n0=some (some (.row e sz es))) (hes:es=xs.map f)
  (hc:decide ((xs++ys).length≤LIM)=true) (hl:xs.length=len) (hys:ys'=ys.map f) (hf:look O (1000+d)=none) (hsz:∀ x,(f x).sz=sz) (hb:Nat.ble bytes 32768=true) (hd:Nat.blt d n=true) :
  EG P B ops E O ⟨some d,.call { callee:=.builtin .append,args:=#[x,y],argTypes:=#[t,t] },ty,pos,af,none⟩
   { nt:=opn x (.sref n0 sz 0 len)++opn y (.d (.list sz ys')),no:=[(n0,.row e sz es)],nf:=[1000+d],wt:=[(d,.sref (1000+d) sz 0 (xs++ys).length)],wo:=[(1000+d,some (.row e sz ((xs++ys).map f))),(n0,none)] }:=by
 subst hl hys hes
 exact⟨apd hB hu.h he.h (1000+d) f xs ys hc (ltN hN hd) (H0 hx) (H0 hy) (Nat.le_add_right ..) hsz hb,U8 (H1 hx) (H1 hy),by simp only [rO,rO',ho],by simp only [rF,rF',hf]⟩
theorem eApN {e sz bytes:Nat} {ys':List D} {α:Type} {f:α→D} {ys:List α} [hu:Und P t (.slice e)] [he:TE P e sz bytes] [hm:Emb P e α f] (hB:B.ok) (hN:B.N=n) (hx:opv x E=some .nils) (hy:opv y E=some (.d (.list sz ys')))
  (hc:decide (ys.length≤LIM)=true) (hys:ys'=ys.map f) (hf:look O (1000+d)=none) (hsz:∀ x,(f x).sz=sz) (hb:Nat.ble bytes 32768=true) (hd:Nat.blt d n=true) :
  EG P B ops E O ⟨some d,.call { callee:=.builtin .append,args:=#[x,y],argTypes:=#[t,t] },ty,pos,af,none⟩
   { nt:=opn x .nils++opn y (.d (.list sz ys')),no:=[],nf:=[1000+d],wt:=[(d,.sref (1000+d) sz 0 ys.length)],wo:=[(1000+d,some (.row e sz (ys.map f)))] }:=by
 subst hys
 exact⟨OpJ.appendN hB hu.h he.h (Nat.le_add_right ..) (by rw [List.length_map]) (A45 hsz) (by rw [List.length_map];exact Y8 hc hb) (by rw [List.length_map];exact A2c hc) (ltN hN hd) (H0 hx) (H0 hy),U8 (H1 hx) (H1 hy),rfl,by simp only [rF,rF',hf]⟩
theorem eMk {e sz bytes:Nat} {zd:D} {α:Type} {f:α→D} {q:α} [hu:Und P t (.slice e)] [he:TE P e sz bytes] [hz:TZD P e zd] [hm:Emb P e α f] (hB:B.ok) (hN:B.N=n) (hx:opv x E=some (.d (.int k a))) (hy:opv y E=some (.d (.int k' b)))
  (hc:(decide (0≤a)&&decide (a≤b)&&decide (b≤(LIM:Int)))=true) (hq:zd=f q) (hzs:zd.sz=sz) (hf:look O (1000+d)=none) (hb:Nat.ble bytes 65536=true) (hd:Nat.blt d n=true) :
  EG P B ops E O ⟨some d,.makeSlice t x y,ty,pos,af,none⟩
   { nt:=opn x (.d (.int k a))++opn y (.d (.int k' b)),no:=[],nf:=[1000+d],wt:=[(d,.sref (1000+d) sz 0 (List.replicate a.toNat q).length)],wo:=[(1000+d,some (.row e sz ((List.replicate a.toNat q).map f)))] } :=
 ⟨OpJ.make hB hu.h he.h hz.h hzs (Nat.le_add_right ..) (of_decide_eq_true (B1z (B1z hc))) (of_decide_eq_true (B20 (B1z hc))) (B5m (of_decide_eq_true (B20 hc)) hb) (B6l (of_decide_eq_true (B20 hc))) (ltN hN hd) (by rw [List.map_replicate,hq]) (by rw [List.length_map]) (H0 hx) (H0 hy),
  U8 (H1 hx) (H1 hy),rfl,by simp only [rF,rF',hf]⟩
-- calls
def opvL:List Operand→EL→Option (List V)
 | [],_=>some []
 | x :: l,E=>match opv x E with
  | some v=>match opvL l E with
   | some vs=>some (v :: vs)
   | none=>none
  | none=>none
def opnL:List Operand→List V→EL
 | x :: l,v :: vs=>opn x v++opnL l vs
 | _,_=>[]
inductive CoA:List V→List V→Prop
 | nil:CoA [] []
 | eq {v w:V} {vs ws:List V}:v=w→CoA vs ws→CoA (v :: vs) (w :: ws)
 | co {v w:V} {y:D} {vs ws:List V}:w = .d y→Co v y→CoA vs ws→CoA (v :: vs) (w :: ws)
theorem A36:∀ {l:List Operand} {vs ws:List V},opvL l E=some vs→CoA vs ws→OpdL l ws (opnL l vs)∧rE E (opnL l vs)=rE' (opnL l vs)
 | [],vs,ws,h,c=>by
  simp only [opvL,Option.some.injEq] at h;subst h
  cases c;exact⟨.nil,rfl⟩
 | x :: l,vs,ws,h,c=>by
  simp only [opvL] at h
  split at h
  ·rename_i v hv
   split at h
   ·rename_i us hu
    cases h
    cases c with
    | eq e c =>
     obtain⟨a,b⟩:=A36 hu c
     exact⟨.cons (e ▸ H0 hv) a,U8 (H1 hv) b⟩
    | co e hc c =>
     obtain⟨a,b⟩:=A36 hu c
     exact⟨.cons (e ▸ Opd.co hc (H0 hv)) a,U8 (H1 hv) b⟩
   ·cases h
  ·cases h
structure CL (P:Program) (R:List (Nat×Nat)) (f:FuncId) (args:List V) (pobs:List (Nat×Ob)) (res:V) (robs:OL):Prop where
 ac:AC P f args pobs res robs
 ok:okCall R args pobs robs=true
theorem cl {f:FuncId} {args:List V} {pobs:List (Nat×Ob)} {res:V} {robs:OL} (R:List (Nat×Nat)) (h:AC P f args pobs res robs) (k:okCall R args pobs robs=true:=by kernel_rfl):CL P R f args pobs res robs:=⟨h,k⟩
theorem eCl {f:FuncId} {xs:List Operand} {ts:Array TypeId} {R:List (Nat×Nat)} {args vs:List V} {pobs:List (Nat×Ob)} {res:V} {robs:OL} [hfn:FO P f] (hB:B.ok) (hN:B.N=n) (hac:CL P R f args pobs res robs)
  (hx:opvL xs E=some vs) (hco:CoA vs (V.renL (rnm R) args)) (ho:rO O (renP R pobs)=rO' (renP R pobs)) (hf:rF O (newNames R pobs robs)=rF' (newNames R pobs robs)) (hnt:(V.renL (rnm R) args).all noTupB=true) (hd:Nat.blt d n=true) :
  EG P B ops E O ⟨some d,.call { callee:=.value (.func f),args:=xs.toArray,argTypes:=ts },ty,pos,af,none⟩ (callEff (opnL xs vs) d R pobs res robs) :=
 ⟨OpJ.callFn hB hfn.h hac.ac R hac.ok (ltN hN hd) hnt (A36 hx hco).1,(A36 hx hco).2,ho,hf⟩
theorem eCl0 {f:FuncId} {xs:List Operand} {ts:Array TypeId} {R:List (Nat×Nat)} {args vs:List V} {pobs:List (Nat×Ob)} {res:V} {robs:OL} [hfn:FO P f] (hB:B.ok) (hac:CL P R f args pobs res robs)
  (hx:opvL xs E=some vs) (hco:CoA vs (V.renL (rnm R) args)) (ho:rO O (renP R pobs)=rO' (renP R pobs)) (hf:rF O (newNames R pobs robs)=rF' (newNames R pobs robs)) (hnt:(V.renL (rnm R) args).all noTupB=true) :
  EG P B ops E O ⟨none,.call { callee:=.value (.func f),args:=xs.toArray,argTypes:=ts },ty,pos,af,none⟩ { callEff (opnL xs vs) 0 R pobs res robs with wt:=[] } :=
 ⟨OpJ.callFn0 hB hfn.h hac.ac R hac.ok hnt (A36 hx hco).1,(A36 hx hco).2,ho,hf⟩
end
section
variable {d n:Nat} {ty t:TypeId} {pos:String} {af:Array Edge} {x y:Operand} {v:V} {nm off:Nat} {p:List Nat}
theorem eCV {tm:Nat} {f:FuncId} {cs:List V} {xs:List Operand} {ts:Array TypeId} {R:List (Nat×Nat)} {all vs:List V} {pobs:List (Nat×Ob)} {res:V} {robs:OL} [hfn:FO P f] (hB:B.ok) (hN:B.N=n) (hac:CL P R f all pobs res robs) (hf:look E tm=some (.func f cs))
  (hc:V.renL (rnm R) (all.drop xs.length)=cs) (hx:opvL xs E=some vs) (hco:CoA vs (V.renL (rnm R) (all.take xs.length))) (ho:rO O (renP R pobs)=rO' (renP R pobs)) (hw:rF O (newNames R pobs robs)=rF' (newNames R pobs robs)) (hnt:(V.renL (rnm R) (all.take xs.length)).all noTupB=true) (hag:(V.renL (rnm R) (all.drop xs.length)).all (fun v => !v.isAgg)=true) (hd:Nat.blt d n=true) :
  EG P B ops E O ⟨some d,.call { callee:=.value (.tmp tm),args:=xs.toArray,argTypes:=ts },ty,pos,af,none⟩ (callEff (opnL xs vs++[(tm,.func f cs)]) d R pobs res robs):=by
 subst hc
 have e:all=all.take xs.length++all.drop xs.length:=(List.take_append_drop ..).symm
 refine⟨OpJ.callVal hB hfn.h R (e ▸ hac.ac) (e ▸ hac.ok) (ltN hN hd) hnt hag (A36 hx hco).1,?_,ho,hw⟩
 exact U8 (A36 hx hco).2 (by simp only [rE,rE',hf])
def SV {α:Type} (_:α):Prop:=True
theorem sv {α:Type} (q:α):SV q:=trivial
theorem eStR {m:Nat} {ag:Bool} {e sz k0 o:Nat} {es:List D} {α:Type} {f:α→D} {xs:List α} {q q':α} {i:Int} {u el:D} [ht:TS P t m ag] [hm:Emb P e α f] (hx:opv x E=some (.ptr nm off (k0 :: p))) (hy:opv y E=some (.d u)) (ho:look O nm=some (some (.row e sz es))) (hi:idx xs i=some q) (hv:SV q') (hk:k0=i.toNat) (hes:es=xs.map f)
  (hs:setV p (.d (f q)) (.d u)=some (o,.d el)) (hq:el=f q') (hoff:off=k0*sz+o) (hsz:(V.d u).sz=m) (hcs:(f q').sz=(f q).sz) :
  EG P B ops E O ⟨none,.store t x y,ty,pos,af,none⟩ { nt:=opn x (.ptr nm off (k0 :: p))++opn y (.d u),no:=[(nm,.row e sz es)],nf:=[],wt:=[],wo:=[(nm,some (.row e sz ((xs.set i.toNat q').map f)))] } :=
 ⟨OpJ.storeR (es':=(xs.set i.toNat q').map f) ht.h (by rw [hes,hk];exact Q3 f (E9 hi).2) (hq ▸ A65 hs) hoff (by rw [hes,hk];exact A7y f _ _ _) hsz hcs (H0 hx) (H0 hy),U8 (H1 hx) (H1 hy),by simp only [rO,rO',ho],rfl⟩
end
section
variable {os:List Oper} {l:List Eff} {E':EL} {O':OL}
theorem kG {o:Oper} {α:Eff} (h:EG P B ops E O o α) (k:Sq P B ops (ap α.wt E) (ap α.wo O) os l E' O'):Sq P B ops E O (o :: os) (α :: l) E' O' :=
 cg h.j (by rw [h.e,h.o,h.f]) k
end
theorem fa {p q:Prop} (a:p) (b:q):p∧q:=⟨a,b⟩
theorem tt:True:=trivial
def SqK (P:Program) (B:Base) (ops:Array Oper) (E:EL) (O:OL) (os:List Oper) (K:List Eff→EL→OL→Prop):Prop:=∃ l E' O',Sq P B ops E O os l E' O'∧K l E' O'
section
variable {os:List Oper} {K:List Eff→EL→OL→Prop} {o:Oper} {d m m':Nat} {nt wt:EL} {no:List (Nat×Ob)} {nf:List Nat} {v:V} {x x':Option Ob}
theorem K0 (h:K [] E O):SqK P B ops E O [] K:=⟨_,_,_,cn,h⟩
theorem K1 (h:E1 P B ops E O o d nt no v) (k:SqK P B ops ((d,v) :: E) O os (fun l=>K ({ nt,no,nf:=[],wt:=[(d,v)],wo:=[] } :: l))):SqK P B ops E O (o :: os) K:=let ⟨_,_,_,s,hk⟩:=k;⟨_,_,_,k1 h s,hk⟩
theorem KW (h:EG P B ops E O o { nt,no,nf,wt:=[(d,v)],wo:=[(m,x)] }) (k:SqK P B ops ((d,v) :: E) ((m,x) :: O) os (fun l=>K ({ nt,no,nf,wt:=[(d,v)],wo:=[(m,x)] } :: l))):SqK P B ops E O (o :: os) K:=let ⟨_,_,_,s,hk⟩:=k;⟨_,_,_,kW h s,hk⟩
theorem KA (h:EG P B ops E O o { nt,no,nf,wt:=[(d,v)],wo:=[(m,x),(m',x')] }) (k:SqK P B ops ((d,v) :: E) ((m,x) :: (m',x') :: O) os (fun l=>K ({ nt,no,nf,wt:=[(d,v)],wo:=[(m,x),(m',x')] } :: l))):SqK P B ops E O (o :: os) K:=let ⟨_,_,_,s,hk⟩:=k;⟨_,_,_,kA h s,hk⟩
theorem KS (h:EG P B ops E O o { nt,no,nf,wt:=[],wo:=[(m,x)] }) (k:SqK P B ops E ((m,x) :: O) os (fun l=>K ({ nt,no,nf,wt:=[],wo:=[(m,x)] } :: l))):SqK P B ops E O (o :: os) K:=let ⟨_,_,_,s,hk⟩:=k;⟨_,_,_,kS h s,hk⟩
theorem KG {α:Eff} (h:EG P B ops E O o α) (k:SqK P B ops (ap α.wt E) (ap α.wo O) os (fun l=>K (α :: l))):SqK P B ops E O (o :: os) K:=let ⟨_,_,_,s,hk⟩:=k;⟨_,_,_,kG h s,hk⟩
theorem KV {b c:Bool} (e:b=c) (k:SqK P B ops ((d,.d (.bool c)) :: E) O os K):SqK P B ops ((d,.d (.bool b)) :: E) O os K:=by rw [e];exact k
section
variable {g:Nat} {op:Op} {ty:TypeId} {pos:String} {af:Array Edge} {j:Nat} {want w:Bool}
theorem KU0 (hg:(ops[j]?).bind (·.dst)=some g) (hv:look E g=some (.d (.bool w))) (hw:(!want)=w) (k:SqK P B ops E O os (fun l=>K ({ nt:=[(g,.d (.bool (!want)))] } :: l))):SqK P B ops E O (⟨none,op,ty,pos,af,some (j,want)⟩ :: os) K:=let ⟨_,_,_,s,hk⟩:=k;⟨_,_,_,gU0 hg hv hw s,hk⟩
theorem KV0 (hg:(ops[j]?).bind (·.dst)=some g) (hv:look E g=some (.opt false v)) (k:SqK P B ops E O os (fun l=>K ({ nt:=[(g,.opt false v)] } :: l))):SqK P B ops E O (⟨none,op,ty,pos,af,some (j,want)⟩ :: os) K:=let ⟨_,_,_,s,hk⟩:=k;⟨_,_,_,gV0 hg hv s,hk⟩
end
theorem SqK.sq {l:List Eff} {E':EL} {O':OL} (h:∀ K:List Eff→EL→OL→Prop,K l E' O'→SqK P B ops E O os K):Sq P B ops E O os l E' O':=by
 obtain⟨l',E'',O'',s,rfl,rfl,rfl⟩:=h (fun a b c=>a=l∧b=E'∧c=O') ⟨rfl,rfl,rfl⟩
 exact s
end
section
variable {rs:List ResultVar} {vs:List V}
theorem rN:Res P E O [] []:=Res.nil
theorem rT {t:Nat} {v:V} (k:Res P E O rs vs) (h:look E t=some v:=by rfl) (h1:v.isTop=false:=by rfl):Res P E O (.tmp t :: rs) (v :: vs):=Res.tmp h h1 k
end
section
variable {id:Nat} {l:List Oper} {effs:List Eff} {E':EL} {O':OL} {Q:Exit→EL→OL→Prop} {c2:Code}
theorem drS (s:Sq P B l.toArray E O l effs E' O') (h:Q .normal E' O') (hm:P.follows .mixedOrders=true:=by kernel_rfl) (hc:noConf l.toArray effs=true:=by kernel_rfl):AWp P B (.region id l.toArray true) Q E O:=dr s hm hc h
theorem sdS (s:Sq P B l.toArray E O l effs E' O') (h:AWp P B c2 Q E' O') (hm:P.follows .mixedOrders=true:=by kernel_rfl) (hc:noConf l.toArray effs=true:=by kernel_rfl):AWp P B (.seq (.region id l.toArray true) c2) Q E O:=sd s hm hc h
end
end Go.Vc
