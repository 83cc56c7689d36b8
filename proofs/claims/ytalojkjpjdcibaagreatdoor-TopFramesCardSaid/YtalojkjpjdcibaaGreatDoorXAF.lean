/- Part of the proof that 'TopFrames' holds of every input: no condition. -/
import Derived.Test.YtalojkjpjdcibaaGreatDoorXAE
import Derived.Test.YtalojkjpjdcibaaGreatDoorXAC
import Derived.Laws.BytesArg
import Derived.Laws.Strings
import Derived.Laws.IdiomStrings
import Derived.ChangeKeysEq
import Derived.Lib.AppendStr
import Derived.Lib.AppendZerosOnto
import Derived.Lib.Overlaps
namespace Go.Vc
open Go
def B71 (P:Program) (s:TypeId) (f:Nat):Option Nat :=
 match P.underlying s with
 | some (.struct fs)=>match fs[f]? with
  | some fl=>match P.info? fl.type,P.underlying fl.type with
   | some i,some _=>bif Nat.blt 0 i.size then some fl.offset else none
   | _,_=>none
  | none=>none
 | _=>none
theorem Ru {P:Program} {s f o:Nat} (h:B71 P s f=some o):∃ fs fl n ag,P.underlying s=some (.struct fs)∧fs[f]? = some fl∧fl.offset=o∧TyS P fl.type n ag∧n≠0:=by
 unfold B71 at h;split at h
 ·rename_i fs hs;split at h
  ·rename_i fl hf;split at h
   ·rename_i i d hi hd;cases hb:Nat.blt 0 i.size with
    | false=>rw [hb] at h;cases h
    | true =>
     rw [hb] at h;cases h;exact⟨fs,fl,i.size,Av d,hs,hf,rfl,⟨by rw [hi];rfl,by rw [hd];rfl⟩,by have:=TV.C2 hb;omega⟩
   ·cases h
  ·cases h
 ·cases h
section
variable {A:Alg}
def Td (P:Program) (S:St A) (d:Nat) (s:TypeId) (x:Operand) (f:Nat):Option (Stp A) :=
 match B71 P s f,S.op x with
 | some o,some (.ptr n off p)=>match A1 S.O n with
  | some (some _)=>some (.pure [] { nt:=rdk x,no:=[n],wt:=[(d,.ptr n (off+o) (p++[f]))] })
  | _=>none
 | some o,some (.eptr n sz k i off p)=>match A1 S.O n with
  | some (some _)=>some (.pure [] { nt:=rdk x,no:=[n],wt:=[(d,.eptr n sz k i (off+o) (p++[f]))] })
  | _=>none
 | some o,some (.dptr (.st b) i) =>
  bif Nat.blt f b.nf&&Nat.beq (b.foff f) o&&b.dat true then some (.pure [⟨b.fty f,A.fld b (S.lv (.st b) i) f⟩] { nt:=rdk x,wt:=[(d,.dptr (b.fty f) S.nl)] }) else none
 | _,_=>none
def Xa (S:St A) (d:Nat) (x:Operand):Option (Stp A) :=
 match S.op x with
 | some (.ptr n off p)=>ob n (.ptr n off p)
 | some (.eptr n sz k i off p)=>ob n (.eptr n sz k i off p)
 | some (.aptr n off p k i sz)=>ob n (.aptr n off p k i sz)
 | some (.dptr c i)=>some (.pure [] { nt:=rdk x,wt:=[(d,.dptr c i)] })
 | _=>none
where ob (n:Nat) (r:TV):Option (Stp A):=match A1 S.O n with
 | some (some _)=>some (.pure [] { nt:=rdk x,no:=[n],wt:=[(d,r)] })
 | _=>none
def St.ix (S:St A) (x:Operand):Option ((k:IntKind)×A.I (.int k)×Nat×List (Lf A)) :=
 match S.op x with
 | some (.d (.int k) i)=>some ⟨k,S.lv (.int k) i,i,[]⟩
 | some (.ki k n)=>some ⟨k,A.ki k n,S.nl,[⟨.int k,A.ki k n⟩]⟩
 | _=>none
def Te (P:Program) (S:St A) (d:Nat) (t:TypeId) (x y:Operand):Option (Stp A) :=
 match P.underlying t,S.op x with
 | some (.slice e),some (.d (.list c) j) =>
  bif tyB P e c.sz c.agg&&c.dat false then match S.anyI y with
   | some ⟨k,a⟩=>some (.bind c (A.idx c k (S.lv (.list c) j) a) (λq=>[⟨c,q⟩]) { nt:=rdk x++rdk y,wt:=[(d,.dptr c S.nl)] })
   | none=>none
  else none
 | some (.slice e),some (.sref n c j)=>match A1 S.O n with
  | some (some (.row _ c' i)) =>
   if h:c'=c then bif tyB P e c.sz c.agg then match S.ix y with
    | some ⟨k,a,ia,lf⟩ =>
     let m:=A.idx c k (S.lv (.list c) i) a
     some (.bind c (bif Nat.beq i j then m else A.chk c (A.sameLen c (S.lv (.list c) i) (S.lv (.list c) j)) m) (λ_=>lf) { nt:=rdk x++rdk y,no:=[n],wt:=[(d,.eptr n c.sz k ia 0 [])] })
    | none=>none
   else none else none
  | _=>none
 | some (.array m e),some (.dptr (.arr m' c) j) =>
  bif Nat.beq m m'&&tyB P e c.sz c.agg&&c.dat false then match S.anyI y with
   | some ⟨k,a⟩=>some (.bind c (A.aidx m' c k (S.lv (.arr m' c) j) a) (λq=>[⟨c,q⟩]) { nt:=rdk x++rdk y,wt:=[(d,.dptr c S.nl)] })
   | none=>none
  else none
 | some (.array m e),some (.ptr n off p)=>match A1 S.O n with
  | some (some _)=>match P.info? e,P.underlying e,S.ix y with
   | some ie,some de,some ⟨k,a,ia,lf⟩=>match S.op y with
    | some (.ki _ z)=>bif decide (0<=z)&&decide (z<(m:Int)) then some (.pure lf { nt:=rdk x++rdk y,no:=[n],wt:=[(d,.aptr n off p k ia ie.size)] }) else none
    | _=>some (.chk (A.ltc k a m) lf { nt:=rdk x++rdk y,no:=[n],wt:=[(d,.aptr n off p k ia ie.size)] })
   | _,_,_=>none
  | _=>none
 | _,_=>none
inductive Rv (A:Alg)
 | tv (x:TV)
 | lf (c:Ty) (x:A.I c)
def Nn (S:St A):List Nat->TV->Option (Nat×Rv A)
 | [],x=>some (0,.tv x)
 | i :: p,.st fs=>match fs.nth i,fs.off? i with
  | some f,some o=>(Nn S p f).map λr=>(o+r.1,r.2)
  | _,_=>none
 | i :: p,.d c j=>bif c.dat false then (c.poff (i :: p)).map λo=>(o,.lf (c.pty (i :: p)) (B3o A c (S.lv c j) (i :: p))) else none
 | _,_=>none
def A0g (P:Program) (S:St A) (d:Nat) (t:TypeId) (x:Operand):Option (Stp A) :=
 match S.op x with
 | some (.dptr c i)=>bif tyB P t c.sz c.agg&&c.dat false then some (.pure [] { nt:=rdk x,wt:=[(d,.d c i)] }) else none
 | some (.ptr n off p)=>match A1 S.O n with
  | some (some (.box _ y))=>bif y.isL then none else match Nn S p y with
   | some (o,.tv z)=>match z.sz? with
    | some m=>bif Nat.beq o off&&tyB P t m z.agg && !z.isL then some (.pure [] { nt:=rdk x,no:=[n],wt:=[(d,z)] }) else none
    | none=>none
   | some (o,.lf c z)=>bif Nat.beq o off&&tyB P t c.sz c.agg then some (.pure [⟨c,z⟩] { nt:=rdk x,no:=[n],wt:=[(d,.d c S.nl)] }) else none
   | none=>none
  | _=>none
 | some (.eptr n sz k i off p)=>match A1 S.O n with
  | some (some (.row _ c j))=>bif Nat.beq sz c.sz&&c.dat false&&tyB P t (c.pty p).sz (c.pty p).agg&&(match c.poff p with | some o=>Nat.beq o off | none=>false) then
    some (.bind c (A.idx c k (S.lv (.list c) j) (S.lv (.int k) i)) (λq=>[⟨c.pty p,B3o A c q p⟩]) { nt:=rdk x,no:=[n],wt:=[(d,.d (c.pty p) S.nl)] })
   else none
  | _=>none
 | some (.aptr n off p k i sz)=>match A1 S.O n with
  | some (some (.box _ y))=>bif y.isL then none else match Nn S p y with
   | some (o,.tv (.d (.arr m c) j))=>bif Nat.beq o off&&Nat.beq sz c.sz&&c.dat false&&tyB P t c.sz c.agg then
     some (.bind c (A.aidx m c k (S.lv (.arr m c) j) (S.lv (.int k) i)) (λq=>[⟨c,q⟩]) { nt:=rdk x,no:=[n],wt:=[(d,.d c S.nl)] }) else none
   | some (o,.lf (.arr m c) z)=>bif Nat.beq o off&&Nat.beq sz c.sz&&c.dat false&&tyB P t c.sz c.agg then
     some (.bind c (A.aidx m c k z (S.lv (.int k) i)) (λq=>[⟨c,q⟩]) { nt:=rdk x,no:=[n],wt:=[(d,.d c S.nl)] }) else none
   | _=>none
  | _=>none
 | _=>none
def B3p (b:Ty):Nat->Nat->Nat->TV
 | _,_,0 => .nil
 | i,k,n+1 => .cons (.d (b.fty k) i) (B3p b (i+1) (k+1) n)
def A9h (A:Alg) (b:Ty) (x:A.I (.st b)):Nat->Nat->List (Lf A)
 | _,0=>[]
 | k,n+1=>⟨b.fty k,A.fld b x k⟩ :: A9h A b x (k+1) n
def A36 (S:St A) (i:Nat) (p:List Nat):(c:Ty)->A.I c->TV->Option (Nat×TV×List (Lf A))
 | .st b,x,y=>match p,(B3p b S.nl 0 b.nf).setN i y,y.sz? with
  | [],some gs,some m=>bif Nat.blt i b.nf&&Nat.beq m (b.fty i).sz && !y.isL&&y.lt S.nl then some (b.foff i,.st gs,A9h A b x 0 b.nf) else none
  | _,_,_=>none
 | _,_,_=>none
def Ke (S:St A):List Nat->TV->TV->Option (Nat×TV×List (Lf A))
 | [],_,y=>some (0,y,[])
 | i :: p,.st fs,y=>match fs.nth i,fs.off? i with
  | some f,some o=>(Ke S p f y).bind λr=>match f.sz?,r.2.1.sz?,fs.setN i r.2.1 with
   | some a,some b,some gs=>bif Nat.beq a b && !f.isL && !r.2.1.isL then some (o+r.1,.st gs,r.2.2) else none
   | _,_,_=>none
  | _,_=>none
 | i :: p,.d c j,y=>bif c.dat false then match c.poff (i :: p),S.asD y (c.pty (i :: p)) with
   | some o,some z=>some (o,.d c S.nl,[⟨c,A0f A c (S.lv c j) (i :: p) z⟩])
   | some _,none=>A36 S i p c (S.lv c j) y
   | _,_=>none
  else none
 | _,_,_=>none
def Tf (P:Program) (S:St A) (t:TypeId) (x y:Operand):Option (Stp A) :=
 match S.op x,S.op y with
 | some (.ptr n off p),some ty=>match A1 S.O n with
  | some (some (.box bt c))=>match Ke S p c ty,c.sz?,ty.sz? with
   | some (o,c',lf),some a,some m=>match c'.sz? with
    | some b=>bif Nat.beq o off&&Nat.beq a b&&tyB P t m ty.agg && !ty.isL && !c.isL && !c'.isL then some (.pure lf { nt:=rdk x++rdk y,no:=[n],wo:=[(n,some (.box bt c'))] }) else none
    | none=>none
   | _,_,_=>none
  | _=>none
 | some (.eptr n sz k i off p),some ty=>match A1 S.O n with
  | some (some (.row e c j))=>bif Nat.beq sz c.sz&&c.dat false&&tyB P t (c.pty p).sz (c.pty p).agg&&(match c.poff p with | some o=>Nat.beq o off | none=>false) then
    match S.asD ty (c.pty p) with
    | some z=>some (.bind c (A.idx c k (S.lv (.list c) j) (S.lv (.int k) i)) (λq=>[⟨.list c,A.setL c k (S.lv (.list c) j) (S.lv (.int k) i) (A0f A c q p z)⟩]) { nt:=rdk x++rdk y,no:=[n],wo:=[(n,some (.row e c S.nl))] })
    | none=>none
   else none
  | _=>none
 | some (.aptr n off [] k i sz),some ty=>match A1 S.O n with
  | some (some (.box bt (.d (.arr m c) j)))=>bif Nat.beq off 0&&Nat.beq sz c.sz&&c.dat false&&tyB P t c.sz c.agg then
    match S.asD ty c with
    | some z=>some (.bind c (A.aidx m c k (S.lv (.arr m c) j) (S.lv (.int k) i)) (λ_=>[⟨.arr m c,A.setA m c k (S.lv (.arr m c) j) (S.lv (.int k) i) z⟩]) { nt:=rdk x++rdk y,no:=[n],wo:=[(n,some (.box bt (.d (.arr m c) S.nl)))] })
    | none=>none
   else none
  | _=>none
 | _,_=>none
end
section
variable {P:Program} {B:D5} {ops:Array Oper} {S:St typ} {ty:TypeId} {pos:String} {af:Array Edge} {d:Nat} {x y:Operand} {t:TypeId}
variable {lf:List (Lf typ)} {s:Stp typ}
theorem Yl [Hid] {f:Nat} (hN:d<B.N) (hS:S.ok) (h:Td P S d t x f=some s):s.Ok P B ops ⟨some d,.fieldAddr t x f,ty,pos,af,none⟩ S:=by
 unfold Td at h;split at h
 ·rename_i o n off p hf hx;obtain⟨fs,fl,m,ag,h1,h2,h3,h4,h5⟩:=Ru hf;split at h
  ·rename_i ob hn;cases h;exact Kk hx hn rfl λnt hx=>OpJ.fieldP h1 h2 h3 h4 h5 hN hx
  ·cases h
 ·rename_i o n sz k i off p hf hx;obtain⟨fs,fl,m,ag,h1,h2,h3,h4,h5⟩:=Ru hf;split at h
  ·rename_i ob hn;cases h;have hl:(TV.eptr n sz k i off p).lt S.nl=true:=Al hS hx;refine Kk hx hn ?_ λnt hx=>OpJ.fieldP h1 h2 h3 h4 h5 hN hx;have e:S.push [] (.int k) i=S.lv (.int k) i:=D8 _ _ (TV.C2 hl);simp only [TV.v,TV.vs,List.headD,e,Nat.add_assoc,List.cons_append]
  ·cases h
 ·rename_i o b i hf hx;obtain⟨fs,fl,m,ag,h1,h2,h3,h4,h5⟩:=Ru hf;cases hb:Nat.blt f b.nf&&Nat.beq (b.foff f) o&&b.dat true with
  | false=>rw [hb] at h;cases h
  | true =>
   rw [hb] at h;cases h;simp only [Bool.and_eq_true] at hb;obtain⟨g1,g2,g3,_⟩:=Ty.M2 (c:=b) hb.2 (S.lv (.st b) i) f (TV.C2 hb.1.1);have g2':=g2.trans (Nat.eq_of_beq_eq_true hb.1.2);refine ok1 hx ?_ λnt hx=>OpJ.fieldD h1 h2 h3 h4 h5 g1 g2' hN hx;simp only [TV.v,TV.vs,List.headD,F6]
 ·cases h
theorem A6t [Hid] (hN:d<B.N) (hS:S.ok) (h:Xa S d x=some s):s.Ok P B ops ⟨some d,.nilCheck x,ty,pos,af,none⟩ S:=by
 have ob:∀ {n:Nat} {r:TV},S.op x=some r->(∃ o p,r.v S.lv = .ptr n o p)->Xa.ob S d x n r=some s->s.Ok P B ops ⟨some d,.nilCheck x,ty,pos,af,none⟩ S:=by
  intro n r hx ⟨o,p,e⟩ h;unfold Xa.ob at h;split at h
  ·rename_i b hn;cases h;refine Kk hx hn (M8 (Al hS hx)) λnt hx => ?_;rw [e] at hx ⊢;exact OpJ.nilP hN hx
  ·cases h
 unfold Xa at h;split at h
 ·rename_i hx;exact ob hx ⟨_,_,rfl⟩ h
 ·rename_i hx;exact ob hx ⟨_,_,rfl⟩ h
 ·rename_i hx;exact ob hx ⟨_,_,rfl⟩ h
 ·rename_i hx;cases h;exact ok1 hx (M8 (Al hS hx)) λnt hx=>OpJ.nilD hN hx
 ·cases h
theorem A1x [Hid] {k:IntKind} {a:Int} {ia:Nat} (hS:S.ok) (h:S.ix y=some ⟨k,a,ia,lf⟩):∃ tx,S.op y=some tx∧tx.v S.lv = .d (.int k a)∧S.push lf (.int k) ia=a:=by
 unfold St.ix at h;split at h
 ·rename_i e;cases h;have hl:=Al hS e;exact⟨_,e,rfl,D8 _ _ (TV.C2 hl)⟩
 ·rename_i k' n e;cases h;exact⟨_,e,rfl,F6⟩
 ·cases h
theorem Ju {c:Ty} {xs:List c.T} {a:Int} {q:c.T} (h:idx xs a=some q):0<=a∧(xs.map c.enc)[a.toNat]? = some (c.enc q) :=
 ⟨(P8 h).1,by rw [List.getElem?_map,(P8 h).2];rfl⟩
theorem Ym [Hid] (hN:d<B.N) (hS:S.ok) (h:Te P S d t x y=some s):s.Ok P B ops ⟨some d,.indexAddr t x y,ty,pos,af,none⟩ S:=by
 unfold Te at h;split at h
 ·rename_i e c j hu hx;cases hb:tyB P e c.sz c.agg&&c.dat false with
  | false=>rw [hb] at h;cases h
  | true =>
   rw [hb] at h;simp only [Bool.and_eq_true] at hb;simp only [cond_true] at h;split at h
   ·rename_i k a hy;obtain⟨tx,e1,e2⟩:=E7 hy;cases h;intro q hq;refine ok2 hx e1 (v:=.dptr (c.enc q)) (by simp only [TV.v,TV.vs,List.headD,F6]) λnt nt' hx hy => ?_;rw [e2] at hy;exact OpJ.indexD hu (F0 hb.1) (Ju hq).1 (Ju hq).2 hN hx hy
   ·cases h
 ·rename_i e n c j hu hx;split at h
  ·rename_i r c' i hn;split at h
   ·rename_i hc;subst hc;cases hb:tyB P e c'.sz c'.agg with
    | false=>rw [hb] at h;cases h
    | true =>
     rw [hb] at h;simp only [cond_true] at h;split at h
     ·rename_i k a ia lf hy;obtain⟨tx,e1,e2,e3⟩:=A1x hS hy;cases h;intro q hq;have hq':idx (S.lv (.list c') i) a=some q∧List.length (S.lv (.list c') i)=List.length (S.lv (.list c') j):=by
       cases hij:Nat.beq i j with
       | true =>
        rw [hij] at hq;have:=Nat.eq_of_beq_eq_true hij;subst this;exact⟨hq,rfl⟩
       | false =>
        rw [hij] at hq;obtain⟨h1,h2⟩:=N3 hq;exact⟨h2,of_decide_eq_true h1⟩
      refine Wy hx e1 hn (v:=.ptr n ((0+a.toNat)*c'.sz) [0+a.toNat]) ?_ λnt nt' hx hy => ?_
      ·simp only [TV.v,TV.vs,List.headD,e3,Nat.zero_add,Nat.add_zero]
      ·rw [e2] at hy;have:=Yd hq'.1;exact OpJ.indexS hu (F0 hb) (P8 hq'.1).1 (by rw [<- hq'.2];exact this) hN hx hy
     ·cases h
   ·cases h
  ·cases h
 ·rename_i m e m' c j hu hx;cases hb:Nat.beq m m'&&tyB P e c.sz c.agg&&c.dat false with
  | false=>rw [hb] at h;cases h
  | true =>
   rw [hb] at h;simp only [Bool.and_eq_true] at hb;simp only [cond_true] at h;split at h
   ·rename_i k a hy;obtain⟨tx,e1,e2⟩:=E7 hy;cases h;intro q hq;have:=Nat.eq_of_beq_eq_true hb.1.1;subst this;refine ok2 hx e1 (v:=.dptr (c.enc q)) (by simp only [TV.v,TV.vs,List.headD,F6]) λnt nt' hx hy => ?_;rw [e2] at hy;exact OpJ.indexDA hu (F0 hb.1.2) (Ju hq).1 (Ju (c:=c) hq).2 hN hx hy
   ·cases h
 ·rename_i m e n off p hu hx;split at h
  ·rename_i ob hn;split at h
   ·rename_i ie de k a ia lf hi hd hy;obtain⟨tx,e1,e2,e3⟩:=A1x hS hy;have ht:TyS P e ie.size (Av de):=⟨by rw [hi];rfl,by rw [hd];rfl⟩;have main:Dn a m=true->OkO P B ops ⟨some d,.indexAddr t x y,ty,pos,af,none⟩ S lf { nt:=rdk x++rdk y,no:=[n],wt:=[(d,.aptr n off p k ia ie.size)] }:=λhb=>by
     simp only [Dn,Bool.and_eq_true,decide_eq_true_eq] at hb;refine Wy hx e1 hn (v:=.ptr n (off+a.toNat*ie.size) (p++[a.toNat])) ?_ λnt nt' hx hy => ?_
     ·simp only [TV.v,TV.vs,List.headD,e3]
     ·rw [e2] at hy;exact OpJ.indexPA hu ht hb.1 hb.2 hN hx hy
    split at h
    ·rename_i kk z hyy;rw [hyy] at e1;cases e1;have e5:z=a:=by simp only [TV.v,TV.vs,List.headD] at e2;cases e2;rfl
     subst e5;cases hb:decide (0<=z)&&decide (z<(m:Int)) with
     | false=>rw [hb] at h;cases h
     | true =>
      rw [hb] at h;cases h;exact main hb
    ·cases h;exact λhb=>main hb
   ·cases h
  ·cases h
 ·cases h
theorem Gg [Hid] (hS:S.ok):∀ {p:List Nat} {x:TV} {o:Nat} {r:Rv typ},Nn S p x=some (o,r)->x.lt S.nl=true->x.isL=false ->
  (∀ z,r = .tv z->At (x.v S.lv) p o (z.v S.lv)∧z.lt S.nl=true)∧(∀ c z,r = .lf c z->At (x.v S.lv) p o (.d (c.enc z))∧c.dat false=true)
 | [],x,o,r,h,hl,_=>by
  simp only [Nn,Option.some.injEq,Prod.mk.injEq] at h;obtain⟨rfl,rfl⟩:=h;exact⟨λz e=>by cases e;exact⟨At.here _,hl⟩,λc z e=>by cases e⟩
 | i :: p,.st fs,o,r,h,hl,_=>by
  simp only [Nn] at h;split at h
  ·rename_i f o1 hf ho;cases hg:Nn S p f with
   | none=>rw [hg] at h;cases h
   | some q =>
    rw [hg] at h;cases h;have hlf:f.lt S.nl=true:=Hl (x:=fs) hf hl;have hL:f.isL=false∨f.isL=true:=by cases f.isL<;>simp
    rcases hL with hL | hL
    ·obtain⟨g1,g2⟩:=Gg hS (o:=q.1) (r:=q.2) hg hlf hL;exact⟨λz e=>⟨At.st (Bt hf) (TV.Fa ho) (g1 z e).1,(g1 z e).2⟩,λc z e=>⟨At.st (Bt hf) (TV.Fa ho) (g2 c z e).1,(g2 c z e).2⟩⟩
    ·cases p with
     | nil =>
      simp only [Nn,Option.some.injEq] at hg;subst hg;exact⟨λz e=>by cases e;exact⟨At.st (Bt hf) (TV.Fa ho) (At.here _),hlf⟩,λc z e=>by cases e⟩
     | cons k p=>cases f<;>first | (simp [TV.isL] at hL;done) | (simp [Nn] at hg)
  ·cases h
 | i :: p,.d c j,o,r,h,hl,_=>by
  simp only [Nn] at h;cases hd:c.dat false with
  | false=>rw [hd] at h;cases h
  | true =>
   rw [hd] at h;cases ho:c.poff (i :: p) with
   | none=>rw [ho] at h;cases h
   | some o1 =>
    rw [ho] at h;cases h;exact⟨λz e=>by(cases e),λc z e=>by cases e;exact Gf hd ho _⟩
 | _ :: _,.nil,_,_,h,_,_ | _ :: _,.junk,_,_,h,_,_ | _ :: _,.undef,_,_,h,_,_ | _ :: _,.kb _,_,_,h,_,_ | _ :: _,.ki _ _,_,_,h,_,_ | _ :: _,.ks _,_,_,h,_,_ | _ :: _,.nils,_,_,h,_,_ | _ :: _,.cst _,_,_,h,_,_ | _ :: _,.ptr _ _ _,_,_,h,_,_ | _ :: _,.eptr ..,_,_,h,_,_ | _ :: _,.aptr ..,_,_,h,_,_ | _ :: _,.dptr _ _,_,_,h,_,_ | _ :: _,.sref _ _ _,_,_,h,_,_ | _ :: _,.qref _ _,_,_,h,_,_ | _ :: _,.qptr _ _ _,_,_,h,_,_ | _ :: _,.tref ..,_,_,h,_,_ | _ :: _,.func _ _,_,_,h,_,_ | _ :: _,.cons _ _,_,_,h,_,_ | _ :: _,.tup _,_,_,h,_,_ | _ :: _,.opt _ _ _,_,_,h,_,_ | _ :: _,.mref _,_,_,h,_,_=>by simp [Nn] at h
theorem At.trans {x:V} {p:List Nat} {o:Nat} {y:V} (h:At x p o y) {q:List Nat} {o':Nat} {z:V} (k:At y q o' z):At x (p++q) (o+o') z:=by
 induction h with
 | here=>rw [Nat.zero_add];exact k
 | st a b _ ih=>rw [Nat.add_assoc];exact At.st a b (ih k)
 | dst a b _ ih=>rw [Nat.add_assoc];exact At.dst a b (ih k)
 | arr a _ ih=>rw [Nat.add_assoc];exact At.arr a (ih k)
theorem A4a [Hid] (hN:d<B.N) (hS:S.ok) (h:A0g P S d t x=some s):s.Ok P B ops ⟨some d,.load t x,ty,pos,af,none⟩ S:=by
 unfold A0g at h;split at h
 ·rename_i c i hx;cases hb:tyB P t c.sz c.agg&&c.dat false with
  | false=>rw [hb] at h;cases h
  | true =>
   rw [hb] at h;cases h;simp only [Bool.and_eq_true] at hb;have hl:(TV.dptr c i).lt S.nl=true:=Al hS hx;exact ok1 hx (M8 (x:=.d c i) hl) λnt hx=>OpJ.loadD (F0 hb.1) (Ty.O4 hb.2 _) (Ty.D7 hb.2 _) hN hx
 ·rename_i n off p hx;split at h
  ·rename_i bt y hn;have hly:y.lt S.nl=true:=F5 (x:=.box bt y) hS.2 hn;cases hL:y.isL with
   | true=>rw [hL] at h;cases h
   | false =>
    rw [hL,cond_false] at h;split at h
    ·rename_i o z hg;split at h
     ·rename_i m hm;cases hb:Nat.beq o off&&tyB P t m z.agg && !z.isL with
      | false=>rw [hb] at h;cases h
      | true =>
       rw [hb] at h;cases h;simp only [Bool.and_eq_true,Bool.not_eq_true'] at hb;obtain⟨g1,g2⟩:=(Gg hS hg hly hL).1 z rfl;have:=Nat.eq_of_beq_eq_true hb.1.1;subst this;exact Kk hx hn (M8 g2) λnt hx=>OpJ.loadB (F0 hb.1.2) g1 (TV.Et hb.2 (by rw [hm];simp)) (TV.sz_v hm hb.2) (TV.P3 hm hb.2).1 hN hx
     ·cases h
    ·rename_i o c z hg;cases hb:Nat.beq o off&&tyB P t c.sz c.agg with
     | false=>rw [hb] at h;cases h
     | true =>
      rw [hb] at h;cases h;simp only [Bool.and_eq_true] at hb;obtain⟨g1,g2⟩:=(Gg hS hg hly hL).2 c z rfl;have:=Nat.eq_of_beq_eq_true hb.1;subst this;exact Kk hx hn E5 λnt hx=>OpJ.loadB (F0 hb.2) g1 (Ty.O4 g2 _) (Ty.D7 g2 _) rfl hN hx
    ·cases h
  ·cases h
 ·rename_i n sz k i off p hx;split at h
  ·rename_i e c j hn;cases hb:Nat.beq sz c.sz&&c.dat false&&tyB P t (c.pty p).sz (c.pty p).agg&&(match c.poff p with | some o=>Nat.beq o off | none=>false) with
   | false=>rw [hb] at h;cases h
   | true =>
    rw [hb] at h;cases h;simp only [Bool.and_eq_true] at hb;have:=Nat.eq_of_beq_eq_true hb.1.1.1;subst this;intro q hq;have ho:=hb.2;split at ho
    ·rename_i o ho';have:=Nat.eq_of_beq_eq_true ho;subst this;obtain⟨g1,g2⟩:=Gf hb.1.1.2 ho' q;exact Kk hx hn E5 λnt hx=>OpJ.loadR (F0 hb.1.2) (Ju hq).2 g1 rfl (Ty.O4 g2 _) (Ty.D7 g2 _) hN hx
    ·cases ho
  ·cases h
 ·rename_i n off p k i sz hx;split at h
  ·rename_i bt y hn;have hly:y.lt S.nl=true:=F5 (x:=.box bt y) hS.2 hn;cases hL:y.isL with
   | true=>rw [hL] at h;cases h
   | false =>
    rw [hL,cond_false] at h;have main:∀ {o m:Nat} {c:Ty} {xs:List c.T},At (y.v S.lv) p o (.d ((Ty.arr m c).enc xs))->(Nat.beq o off&&Nat.beq sz c.sz&&c.dat false&&tyB P t c.sz c.agg)=true->∀ q,idx xs (S.lv (.int k) i)=some q ->
      OkO P B ops ⟨some d,.load t x,ty,pos,af,none⟩ S [⟨c,q⟩] { nt:=rdk x,no:=[n],wt:=[(d,.d c S.nl)] }:=fun {o m c xs} hat hb q hq=>by
     simp only [Bool.and_eq_true] at hb;have:=Nat.eq_of_beq_eq_true hb.1.1.1;subst this;have:=Nat.eq_of_beq_eq_true hb.1.1.2;subst this;have g:=hat.trans (At.arr (Ju hq).2 (At.here _));rw [Nat.add_zero] at g;exact Kk hx hn E5 λnt hx=>OpJ.loadB (F0 hb.2) g (Ty.O4 hb.1.2 _) (Ty.D7 hb.1.2 _) rfl hN hx
    split at h
    ·rename_i o m c j hg;cases hb:Nat.beq o off&&Nat.beq sz c.sz&&c.dat false&&tyB P t c.sz c.agg with
     | false=>rw [hb] at h;cases h
     | true =>
      rw [hb] at h;cases h;exact λq hq=>main ((Gg hS hg hly hL).1 _ rfl).1 hb q hq
    ·rename_i o m c z hg;cases hb:Nat.beq o off&&Nat.beq sz c.sz&&c.dat false&&tyB P t c.sz c.agg with
     | false=>rw [hb] at h;cases h
     | true =>
      rw [hb] at h;cases h;exact λq hq=>main ((Gg hS hg hly hL).2 _ _ rfl).1 hb q hq
    ·cases h
  ·cases h
 ·cases h
theorem A1y [Hid] {b:Ty} (hb:b.dat true=true) (x:(Ty.st b).T) {f:Val}:∀ {n k i:Nat},k+n=b.nf->Dq f i (A9h typ b x k n)->(B3p b i k n).vs f=((b.encs x).drop k).map V.d
 | 0,k,i,e,_=>by
  have:(b.encs x).drop k=[]:=by
   apply List.drop_eq_nil_of_le;have:=Ty.A6l hb x;omega
  rw [this];rfl
 | n+1,k,i,e,hf=>by
  obtain⟨g1,_,_,_⟩:=Ty.M2 hb x k (by omega);have h0:=hf 0 _ _ rfl;rw [Nat.add_zero] at h0;have ih:=A1y hb x (n:=n) (k:=k+1) (i:=i+1) (by omega) (λm c y hm=>by
   have:=hf (m+1) c y hm;rw [show i+1+m=i+(m+1) from by omega];exact this)
  simp only [B3p,TV.vs,List.headD,h0,ih];have hd:(b.encs x).drop k=(b.fty k).enc (b.fget x k) :: (b.encs x).drop (k+1):=by
   obtain⟨hlt,he⟩:=List.getElem?_eq_some_iff.1 g1;rw [List.drop_eq_getElem_cons hlt,he]
  rw [hd];rfl
theorem A6u [Hid] {i:Nat} {p:List Nat} {c:Ty} {x:c.T} {y x':TV} {o m:Nat} (hd:c.dat false=true) (h:A36 S i p c x y=some (o,x',lf)) (hy:y.lt S.nl=true) (hyL:y.isL=false) (hm:y.sz? = some m) :
  ∃ v,(v=y.v S.lv∨∃ e,Co (y.v S.lv) e∧v = .d e)∧v.sz=m∧v.isTop=false∧v ≠ .junk∧L6 (.d (c.enc x)) (i :: p) o v (x'.v (S.push lf)):=by
 cases c with
 | st b =>
  simp only [A36] at h;split at h
  ·rename_i gs m' hs hm';cases hc:Nat.blt i b.nf&&Nat.beq m' (b.fty i).sz && !y.isL&&y.lt S.nl with
   | false=>rw [hc] at h;cases h
   | true =>
    rw [hc] at h;cases h;simp only [Bool.and_eq_true] at hc;rw [hm] at hm';cases hm';obtain⟨g1,g2,g3,_⟩:=Ty.M2 (c:=b) hd x i (TV.C2 hc.1.1.1);have e0:=A1y (b:=b) hd x (n:=b.nf) (k:=0) (i:=S.nl) (by omega) (St.hasAt (A9h typ b x 0 b.nf));refine⟨_,.inl rfl,TV.sz_v hm hyL,(TV.P3 hm hyL).1,(TV.P3 hm hyL).2,?_⟩;have e1:(TV.st gs).v (S.push (A9h typ b x 0 b.nf)) = .st (((b.encs x).map V.d).set i (y.v S.lv)):=by
     show V.st (gs.vs _)=_;rw [TV.Ge hs,e0,M8 hy];rfl
    rw [e1];refine L6.lift ?_;have:=L6.st (fs:=(b.encs x).map V.d) (i:=i) (p:=[]) (f:=.d ((b.fty i).enc (b.fget x i))) (o:=b.foff i) (off:=0) (y:=y.v S.lv) (f':=y.v S.lv)
     (by rw [List.getElem?_map,g1];rfl) (by rw [<- List.map_take,N2];exact g2) (L6.here _ _) (by rw [TV.sz_v hm hyL];show m=D.sz _;rw [Ty.D7 g3];exact Nat.eq_of_beq_eq_true hc.1.1.2)
    exact this
  ·cases h
 | _=>simp [A36] at h
theorem Uy [Hid] (hS:S.ok):∀ {p:List Nat} {x y x':TV} {o m:Nat} {lf:List (Lf typ)},Ke S p x y=some (o,x',lf)->x.lt S.nl=true->x.isL=false->y.lt S.nl=true->y.isL=false->y.sz? = some m ->
  ∃ v,(v=y.v S.lv∨∃ e,Co (y.v S.lv) e∧v = .d e)∧v.sz=m∧v.isTop=false∧v ≠ .junk∧L6 (x.v S.lv) p o v (x'.v (S.push lf))
 | [],x,y,x',o,m,lf,h,hl,hL,hy,hyL,hm=>by
  simp only [Ke,Option.some.injEq,Prod.mk.injEq] at h;obtain⟨rfl,rfl,rfl⟩:=h;rw [M8 hy];exact⟨_,.inl rfl,TV.sz_v hm hyL,(TV.P3 hm hyL).1,(TV.P3 hm hyL).2,L6.here _ _⟩
 | i :: p,.st fs,y,x',o,m,lf,h,hl,hL,hy,hyL,hm=>by
  simp only [Ke] at h;split at h
  ·rename_i f o1 hf ho;cases hg:Ke S p f y with
   | none=>rw [hg] at h;cases h
   | some r =>
    rw [hg] at h;simp only [Option.bind_some] at h;split at h
    ·rename_i a b gs ha hb hs;cases hc:Nat.beq a b && !f.isL && !r.2.1.isL with
     | false=>rw [hc] at h;cases h
     | true =>
      rw [hc] at h;cases h;simp only [Bool.and_eq_true,Bool.not_eq_true'] at hc;have hlf:f.lt S.nl=true:=Hl (x:=fs) hf hl;obtain⟨v,g1,g2,g3,g4,g5⟩:=Uy hS (x':=r.2.1) (o:=r.1) (lf:=r.2.2) hg hlf hc.1.2 hy hyL hm;refine⟨v,g1,g2,g3,g4,?_⟩;have e1:(TV.st gs).v (S.push r.2.2) = .st ((fs.vs S.lv).set i (r.2.1.v (S.push r.2.2))):=by
       show V.st (gs.vs (S.push r.2.2))=_;rw [TV.Ge hs,TV.W3 (g:=S.lv) (λc i hi=>D8 c i hi) (x:=fs) hl]
      rw [e1];have:=Nat.eq_of_beq_eq_true hc.1.1;subst this;exact L6.st (Bt hf) (TV.Fa ho) g5 (by rw [TV.sz_v hb hc.2,TV.sz_v ha hc.1.2])
    ·cases h
  ·cases h
 | i :: p,.d c j,y,x',o,m,lf,h,hl,hL,hy,hyL,hm=>by
  simp only [Ke] at h;cases hd:c.dat false with
  | false=>rw [hd] at h;cases h
  | true =>
   rw [hd,cond_true] at h;split at h
   ·rename_i o1 z ho hz;cases h;obtain⟨g1,g2⟩:=Gf hd ho (S.lv c j);have hco:=W9 hz g2;refine⟨.d ((c.pty (i :: p)).enc z),.inr ⟨_,hco,rfl⟩,?_,rfl,V.noConfusion,?_⟩
    ·rw [<- TV.sz_v (f:=S.lv) hm hyL];exact(Co.sz hco).symm
    ·rw [E5];exact Rs hd ho (S.lv c j) z
   ·exact A6u hd h hy hyL hm
   ·cases h
 | _ :: _,.nil,_,_,_,_,_,h,_,_,_,_,_ | _ :: _,.junk,_,_,_,_,_,h,_,_,_,_,_ | _ :: _,.undef,_,_,_,_,_,h,_,_,_,_,_ | _ :: _,.kb _,_,_,_,_,_,h,_,_,_,_,_ | _ :: _,.ki _ _,_,_,_,_,_,h,_,_,_,_,_ | _ :: _,.ks _,_,_,_,_,_,h,_,_,_,_,_ | _ :: _,.nils,_,_,_,_,_,h,_,_,_,_,_ | _ :: _,.cst _,_,_,_,_,_,h,_,_,_,_,_ | _ :: _,.ptr _ _ _,_,_,_,_,_,h,_,_,_,_,_ | _ :: _,.eptr ..,_,_,_,_,_,h,_,_,_,_,_ | _ :: _,.aptr ..,_,_,_,_,_,h,_,_,_,_,_ | _ :: _,.dptr _ _,_,_,_,_,_,h,_,_,_,_,_ | _ :: _,.sref _ _ _,_,_,_,_,_,h,_,_,_,_,_ | _ :: _,.qref _ _,_,_,_,_,_,h,_,_,_,_,_ | _ :: _,.qptr _ _ _,_,_,_,_,_,h,_,_,_,_,_ | _ :: _,.tref ..,_,_,_,_,_,h,_,_,_,_,_ | _ :: _,.func _ _,_,_,_,_,_,h,_,_,_,_,_ | _ :: _,.cons _ _,_,_,_,_,_,h,_,_,_,_,_ | _ :: _,.tup _,_,_,_,_,_,h,_,_,_,_,_ | _ :: _,.opt _ _ _,_,_,_,_,_,h,_,_,_,_,_ | _ :: _,.mref _,_,_,_,_,_,h,_,_,_,_,_=>by simp [Ke] at h
theorem B3q [Hid] {o:Oper} {lf:List (Lf typ)} {n:Nat} {tx ty:TV} {b b':TOb} {v:V} {β:Ob} (hx:S.op x=some tx) (hy:S.op y=some ty) (hv:v=ty.v S.lv∨∃ e,Co (ty.v S.lv) e∧v = .d e) (hn:A1 S.O n=some (some b)) (hb:b'.o (S.push lf)=β)
  (h:∀ nt nt',Opd x (tx.v S.lv) nt->Opd y v nt'->OpJ P B ops o { nt:=nt++nt',no:=[(n,b.o S.lv)],wo:=[(n,some β)] }):OkO P B ops o S lf { nt:=rdk x++rdk y,no:=[n],wo:=[(n,some b')] }:=by
 have hy2:Opd y v (on y (ty.v S.lv)):=by
  rcases hv with rfl | ⟨e,hc,rfl⟩
  ·exact(B6 hy).1
  ·exact Opd.co hc (B6 hy).1
 exact⟨_,h _ _ (B6 hx).1 hy2,E4 (B6 hx).2 (B6 hy).2,by simp only [rO,rO',F4,hn,Option.map_some],rfl,rfl,by simp only [oOf,List.map,Option.map,hb],by rw [D6,C5,C5],rfl,rfl⟩
theorem Yn [Hid] (hS:S.ok) (h:Tf P S t x y=some s):s.Ok P B ops ⟨none,.store t x y,ty,pos,af,none⟩ S:=by
 unfold Tf at h;split at h
 ·rename_i n off p tv hx hy;split at h
  ·rename_i bt c hn;split at h
   ·rename_i o c' lf a m hg ha hm;split at h
    ·rename_i b hb;cases hc:Nat.beq o off&&Nat.beq a b&&tyB P t m tv.agg && !tv.isL && !c.isL && !c'.isL with
     | false=>rw [hc] at h;cases h
     | true =>
      rw [hc] at h;cases h;simp only [Bool.and_eq_true,Bool.not_eq_true'] at hc;have hlc:c.lt S.nl=true:=F5 (x:=.box bt c) hS.2 hn;obtain⟨v,g1,g2,g3,g4,g5⟩:=Uy hS hg hlc hc.1.2 (Al hS hy) hc.1.1.2 hm;have:=Nat.eq_of_beq_eq_true hc.1.1.1.1.1;subst this;have:=Nat.eq_of_beq_eq_true hc.1.1.1.1.2;subst this;exact B3q (v:=v) hx hy g1 hn rfl λnt nt' hx hy=>OpJ.storeB (F0 hc.1.1.1.2) g5 g2 (by rw [TV.sz_v hb hc.2,TV.sz_v ha hc.1.2]) g4 g3 hx hy
    ·cases h
   ·cases h
  ·cases h
 ·rename_i n sz k i off p tv hx hy;split at h
  ·rename_i e c j hn;cases hb:Nat.beq sz c.sz&&c.dat false&&tyB P t (c.pty p).sz (c.pty p).agg&&(match c.poff p with | some o=>Nat.beq o off | none=>false) with
   | false=>rw [hb] at h;cases h
   | true =>
    rw [hb,cond_true] at h;simp only [Bool.and_eq_true] at hb;split at h
    ·rename_i z hz;cases h;have:=Nat.eq_of_beq_eq_true hb.1.1.1;subst this;intro q hq;have ho:=hb.2;split at ho
     ·rename_i o ho';have:=Nat.eq_of_beq_eq_true ho;subst this;obtain⟨g1,g2⟩:=Gf hb.1.1.2 ho' q;have k1:=Rs hb.1.1.2 ho' q z;have e1:List.map c.enc (List.set (S.lv (.list c) j) (Int.toNat (S.lv (.int k) i)) (A0f typ c q p z))=(List.map c.enc (S.lv (.list c) j)).set (Int.toNat (S.lv (.int k) i)) (c.enc (A0f typ c q p z)):=Fy _ _ _ _;refine B3q (v:=.d ((c.pty p).enc z)) hx hy (.inr ⟨_,W9 hz g2,rfl⟩) hn (congrArg (λl:List c.T=>Ob.row e c.sz (List.map c.enc l)) (F6 (c:=.list c))) λnt nt' hx hy => ?_;exact OpJ.storeR (F0 hb.1.2) (Ju hq).2 k1 rfl e1 (Ty.D7 g2 _) (by rw [Ty.D7 hb.1.1.2,Ty.D7 hb.1.1.2]) hx hy
     ·cases ho
    ·cases h
  ·cases h
 ·rename_i n off k i sz tv hx hy;split at h
  ·rename_i bt m c j hn;cases hb:Nat.beq off 0&&Nat.beq sz c.sz&&c.dat false&&tyB P t c.sz c.agg with
   | false=>rw [hb] at h;cases h
   | true =>
    rw [hb,cond_true] at h;simp only [Bool.and_eq_true] at hb;split at h
    ·rename_i z hz;cases h;have:=Nat.eq_of_beq_eq_true hb.1.1.1;subst this;have:=Nat.eq_of_beq_eq_true hb.1.1.2;subst this;intro q hq;have e1:List.map c.enc (List.set (S.lv (.arr m c) j) (Int.toNat (S.lv (.int k) i)) z)=(List.map c.enc (S.lv (.arr m c) j)).set (Int.toNat (S.lv (.int k) i)) (c.enc z):=Fy _ _ _ _;refine B3q (v:=.d (c.enc z)) hx hy (.inr ⟨_,W9 hz hb.1.2,rfl⟩) hn (β:=.box bt (.d (.arr m c.sz ((List.map c.enc (S.lv (.arr m c) j)).set (Int.toNat (S.lv (.int k) i)) (c.enc z))))) ?_ λnt nt' hx hy => ?_
     ·exact(congrArg (λl:List c.T=>Ob.box bt (.d (.arr m c.sz (List.map c.enc l)))) (F6 (c:=.arr m c))).trans (congrArg (λl=>Ob.box bt (.d (.arr m c.sz l))) e1)
     ·have g:=L6.arr (n:=m) (sz:=c.sz) (Ju (c:=c) hq).2 (L6.here (.d (c.enc q)) (.d (c.enc z))) (by rw [Ty.D7 hb.1.2,Ty.D7 hb.1.2]);rw [Nat.add_zero] at g;have hx':Opd x (.ptr n (Int.toNat (S.lv (.int k) i)*c.sz) [Int.toNat (S.lv (.int k) i)]) nt:=by
       simpa only [TV.v,TV.vs,List.headD,Nat.zero_add,List.nil_append] using hx
      exact OpJ.storeB (F0 hb.2) g (Ty.D7 hb.1.2 _) rfl V.noConfusion rfl hx' hy
    ·cases h
  ·cases h
 ·cases h
end
end Go.Vc
namespace Go.Vc
open Go
def Cj (P:Program):List Field->Option (List (Nat×Nat))
 | []=>some []
 | f :: fs=>match P.info? f.type with
  | some i=>(Cj P fs).map λl=>(f.offset,i.size) :: l
  | none=>none
theorem Lu {P:Program} (w:World):∀ {fs:List Field} {l:List (Nat×Nat)},Cj P fs=some l->(fs.mapM λf=>do pure (f.offset,<- sizeOf f.type):Sem (List (Nat×Nat))).run P w = .ok l w
 | [],l,h=>by simp only [Cj,Option.some.injEq] at h;subst h;rfl
 | f :: fs,l,h=>by
  simp only [Cj] at h;split at h
  ·rename_i i hi;cases hp:Cj P fs with
   | none=>rw [hp] at h;cases h
   | some m =>
    rw [hp] at h;cases h;have:=Lu w hp;have hs:(sizeOf f.type).run P w = .ok i.size w:=by simp [sizeOf,typeInfo,hi]
    rw [List.mapM_cons];simp only [Sem.run_bind,hs,Result.andThen_ok,Sem.run_pure,this]
  ·cases h
theorem Yo {P:Program} {t:TypeId} {fs:Array Field} {l:List (Nat×Nat)} (hu:P.underlying t=some (.struct fs)) (h:Cj P fs.toList=some l):TyF P t fs l :=
 ⟨hu,λw=>by
  have:=Lu w h;rw [Array.mapM_eq_mapM_toList,map_eq_pure_bind];simp only [Sem.run_bind,this,Result.andThen_ok,Sem.run_pure]⟩
section
variable {A:Alg}
def Fo (S:St A) (places:List (Nat×Nat)):TV->List (Nat×Operand)->Option (TV×List Nat)
 | cur,[]=>some (cur,[])
 | cur,(i,x) :: ps=>match cur.nth i,S.op x,places[i]?,cur.off? i with
  | some f,some y,some (o,n),some o'=>match f.sz?,y.sz?,cur.setN i y with
   | some a,some b,some cur'=>bif Nat.beq a b&&Nat.beq o o'&&Nat.beq n a && !f.isL && !y.isL then (Fo S places cur' ps).map λr=>(r.1,rdk x++r.2) else none
   | _,_,_=>none
  | _,_,_,_=>none
def Tg (P:Program) (S:St A) (d:Nat) (t:TypeId) (parts:List (Nat×Operand)):Option (Stp A) :=
 match P.underlying t with
 | some (.struct fs)=>match Cj P fs.toList,zT A P 12 t S.nl,zV P 12 t with
  | some places,some (.st zs,lf),some z=>bif zB P t z&&zs.lt (S.nl+lf.length) then
   (Fo S places zs parts).map λr => .pure lf { nt:=r.2,wt:=[(d,.st r.1)] } else none
  | _,_,_=>none
 | _=>none
def V9 (S:St A) (c:Ty):List (A.I c)->List (Nat×Operand)->Option (List (A.I c)×List Nat)
 | l,[]=>some (l,[])
 | l,(i,x) :: ps=>match S.op x with
  | some y=>match S.asD y c with
   | some z=>bif Nat.blt i l.length then (V9 S c (l.set i z) ps).map λr=>(r.1,rdk x++r.2) else none
   | none=>none
  | none=>none
def Np (P:Program) (S:St A) (d:Nat) (t:TypeId) (m:Nat) (parts:List (Nat×Operand)):Option (Stp A) :=
 match P.underlying t with
 | some (.slice e)=>match V3 P 12 e with
  | some c=>bif c.dat false&&tyB P e c.sz c.agg&&zB P e (.d (c.enc c.zero))&&Nat.blt 0 c.sz&&Nat.ble (m*c.sz) 16777216 then
   (V9 S c (List.replicate m (A.zero c)) parts).map λr => .pure [⟨.list c,A.lit c r.1⟩] { nt:=r.2,wt:=[(d,.d (.list c) S.nl)] } else none
  | none=>none
 | _=>none
def A0h (P:Program) (S:St A) (d:Nat) (t:TypeId) (parts:List (Nat×Operand)):Option (Stp A) :=
 match P.underlying t with
 | some (.array m e)=>match V3 P 12 e with
  | some c=>bif c.dat false&&tyB P e c.sz c.agg&&zB P t (.d ((Ty.arr m c).enc (Ty.arr m c).zero)) then
   (V9 S c (List.replicate m (A.zero c)) parts).map λr => .pure [⟨.arr m c,A.mkA m c r.1⟩] { nt:=r.2,wt:=[(d,.d (.arr m c) S.nl)] } else none
  | none=>none
 | _=>none
def Th (P:Program) (S:St A) (d:Nat) (t:TypeId):Option (Stp A) :=
 match zT A P 12 t S.nl,zV P 12 t with
 | some (x,lf),some z=>bif zB P t z&&Nat.ble 1000 S.nx then some (.pure lf { nf:=[S.nx],wt:=[(d,.ptr S.nx 0 [])],wo:=[(S.nx,some (.box t x))] }) else none
 | _,_=>none
def A9i (S:St A) (d:Nat) (t:TypeId) (x:Operand):Option (Stp A) :=
 match S.op x with
 | some y=>match y.sz? with
  | some _=>bif Nat.ble 1000 S.nx && !y.isL then some (.pure [] { nt:=rdk x,nf:=[S.nx],wt:=[(d,.ptr S.nx 0 [])],wo:=[(S.nx,some (.box t y))] }) else none
  | none=>none
 | none=>none
def bytesOf (P:Program) (e:TypeId):Nat:=match P.info? e with | some i=>i.bytes | none=>0
def A9j (P:Program) (S:St A) (d:Nat) (t:TypeId) (x y:Operand):Option (Stp A) :=
 match P.underlying t,S.op x,S.op y with
 | some (.slice e),some tx,some ty=>match V3 P 12 e with
  | some c=>bif Bl P e c.sz (bytesOf P e)&&Nat.ble (bytesOf P e) 32768&&Nat.ble 1000 S.nx&&c.dat false then
    match tx,S.asD ty (.list c) with
    | .sref n c' j,some ys=>match A1 S.O n with
     | some (some (.row e' c2 i))=>bif Nat.beq e' e&&decide (c'=c)&&decide (c2=c) then
       let l:=A.app c (S.lv (.list c) i) ys
       let b:=bif Nat.beq i j then A.fitL c l else A.and (A.sameLen c (S.lv (.list c) j) (S.lv (.list c) i)) (A.fitL c l)
       some (.chk b [⟨.list c,l⟩] { nt:=rdk x++rdk y,no:=[n],nf:=[S.nx],wt:=[(d,.sref S.nx c S.nl)],wo:=[(S.nx,some (.row e c S.nl)),(n,none)] })
      else none
     | _=>none
    | .nils,some ys=>some (.chk (A.fitL c ys) [⟨.list c,ys⟩] { nt:=rdk x++rdk y,nf:=[S.nx],wt:=[(d,.sref S.nx c S.nl)],wo:=[(S.nx,some (.row e c S.nl))] })
    | _,_=>none
   else none
  | none=>none
 | _,_,_=>none
def A0i (P:Program) (S:St A) (d:Nat) (t:TypeId) (x y:Operand):Option (Stp A) :=
 match P.underlying t,S.anyI x,S.anyI y with
 | some (.slice e),some ⟨k,a⟩,some ⟨k',b⟩=>match V3 P 12 e with
  | some c=>bif Bl P e c.sz (bytesOf P e)&&Nat.ble (bytesOf P e) 65536&&Nat.ble 1000 S.nx&&c.dat false&&zB P e (.d (c.enc c.zero)) then
    if h:k'=k then
     some (.chk (A.and (A.and (A.ge0 k a) (A.cmp .leq k a (h ▸ b))) (A.fitI k' b)) [⟨.list c,A.repL c k a (A.zero c)⟩] { nt:=rdk x++rdk y,nf:=[S.nx],wt:=[(d,.sref S.nx c S.nl)],wo:=[(S.nx,some (.row e c S.nl))] })
    else none
   else none
  | none=>none
 | _,_,_=>none
def A9k (P:Program) (S:St A) (d:Nat) (t:TypeId) (x:Operand):Option (Stp A) :=
 match P.underlying t,S.op x with
 | some (.slice _),some .nils=>some (.pure [] { nt:=rdk x,wt:=[(d,.ki .i64 0)] })
 | some (.slice _),some (.d (.list c) j)=>some (S.leaf1 d (rdk x) [] (.int .i64) (A.len c (S.lv (.list c) j)))
 | some (.slice _),some (.sref n c j)=>match A1 S.O n with
  | some (some _)=>some (S.leaf1 d (rdk x) [n] (.int .i64) (A.len c (S.lv (.list c) j)))
  | _=>none
 | some .string,some tx=>match S.exact .str tx with
  | some s=>some (S.leaf1 d (rdk x) [] (.int .i64) (A.slen s))
  | none=>none
 | _,_=>none
def B3r (S:St A) (d:Nat) (m:Bool) (x y:Operand):Option (Stp A) :=
 match S.anyI x,S.anyI y with
 | some ⟨k,a⟩,some ⟨k',b⟩=>if h:k'=k then some (S.leaf1 d (rdk x++rdk y) [] (.int k) (A.mm m k a (h ▸ b))) else none
 | _,_=>none
def A0j (P:Program) (S:St A) (d:Nat) (t:TypeId) (x y:Operand):Option (Stp A) :=
 match P.underlying t,S.op x,S.anyI y with
 | some .string,some tx,some ⟨k,a⟩=>match S.exact .str tx with
  | some s=>some (.bind (.int .u8) (A.sidx k s a) (λq=>[⟨.int .u8,q⟩]) { nt:=rdk x++rdk y,wt:=[(d,.d (.int .u8) S.nl)] })
  | none=>none
 | _,_,_=>none
def A9l (P:Program) (S:St A) (d:Nat) (t:TypeId) (x:Operand) (lo hi:Option Operand):Option (Stp A) :=
 match P.underlying t,S.op x with
 | some (.slice e),some (.d (.list c) j)=>bif tyB P e c.sz c.agg&&c.dat false then
   match lo,hi with
   | none,none=>some (.pure [⟨.list c,S.lv (.list c) j⟩] { nt:=rdk x,wt:=[(d,.d (.list c) S.nl)] })
   | some l,none=>match S.anyI l with
    | some ⟨k,a⟩=>some (.chk (A.leL c k a (S.lv (.list c) j)) [⟨.list c,A.cutD c k (S.lv (.list c) j) a⟩] { nt:=rdk x++rdk l,wt:=[(d,.d (.list c) S.nl)] })
    | none=>none
   | none,some h=>match S.anyI h with
    | some ⟨k,a⟩=>some (.chk (A.leL c k a (S.lv (.list c) j)) [⟨.list c,A.cutT c k (S.lv (.list c) j) a⟩] { nt:=rdk x++rdk h,wt:=[(d,.d (.list c) S.nl)] })
    | none=>none
   | some l,some h=>match S.anyI l,S.anyI h with
    | some ⟨k,a⟩,some ⟨k',b⟩ =>
     let xs:=A.cutT c k' (S.lv (.list c) j) b
     some (.chk (A.and (A.leL c k' b (S.lv (.list c) j)) (A.leL c k a xs)) [⟨.list c,A.cutD c k xs a⟩] { nt:=rdk x++(rdk l++rdk h),wt:=[(d,.d (.list c) S.nl)] })
    | _,_=>none
  else none
 | _,_=>none
def A9m (S:St A):List Operand->Option (TV×List Nat)
 | []=>some (.nil,[])
 | x :: xs=>match S.op x,A9m S xs with
  | some y,some (l,nt)=>some (.cons y l,rdk x++nt)
  | _,_=>none
def TV.allOk:TV->Bool
 | .nil=>true
 | .cons a b=>a.sz?.isSome && !a.agg && !a.isL&&b.allOk
 | _=>false
def A9n (S:St A) (d:Nat) (f:FuncId) (caps:List Operand):Option (Stp A) :=
 match A9m S caps with
 | some (l,nt)=>bif l.allOk&&l.lt S.nl then some (.pure [] { nt,wt:=[(d,.func f l)] }) else none
 | none=>none
end
section
variable {P:Program} {B:D5} {ops:Array Oper} {S:St typ} {ty:TypeId} {pos:String} {af:Array Edge} {d:Nat} {x y:Operand} {t:TypeId}
variable {parts:List (Nat×Operand)} {s:Stp typ} {c:Ty}
theorem Rw {v:V} (h1:v.isTop=false) (h2:v ≠ .junk):(match v with | .junk=>false | x => !x.isTop)=true:=by
 cases v<;>first | (exact absurd rfl h2) | rfl | (simp [V.isTop] at h1)
theorem Pv [Hid] {f:Val} (hf:∀ c i,i<S.nl->f c i=S.lv c i) (hS:S.ok) {places:List (Nat×Nat)}:∀ {parts:List (Nat×Operand)} {cur r:TV} {nt':List Nat},Fo S places cur parts=some (r,nt') ->
  ∃ vs nt,Ki parts vs nt∧rE S.e nt=rE' nt∧B8 nt=nt'∧R2 places (cur.vs f) vs=true∧r.vs f=Q3 (cur.vs f) vs
 | [],cur,r,nt',h=>by
  simp only [Fo,Option.some.injEq,Prod.mk.injEq] at h;obtain⟨rfl,rfl⟩:=h;exact⟨[],[],.nil,rfl,rfl,rfl,rfl⟩
 | (i,x) :: ps,cur,r,nt',h=>by
  simp only [Fo] at h;split at h
  ·rename_i g y o n o' hg hy hp ho;split at h
   ·rename_i a b cur' ha hb hc;cases hq:Nat.beq a b&&Nat.beq o o'&&Nat.beq n a && !g.isL && !y.isL with
    | false=>rw [hq] at h;cases h
    | true =>
     rw [hq,cond_true] at h;simp only [Bool.and_eq_true,Bool.not_eq_true'] at hq;have e1:=Nat.eq_of_beq_eq_true hq.1.1.1.1;have e2:=Nat.eq_of_beq_eq_true hq.1.1.1.2;have e3:=Nat.eq_of_beq_eq_true hq.1.1.2;subst e1 e2 e3;cases hr:Fo S places cur' ps with
     | none=>rw [hr] at h;cases h
     | some q =>
      rw [hr] at h;cases h;obtain⟨vs,nt,k1,k2,k3,k4,k5⟩:=Pv hf hS (parts:=ps) (cur:=cur') (r:=q.1) (nt':=q.2) hr;have hv:y.v f=y.v S.lv:=TV.Hj hf (Al hS hy);rw [TV.Ge hc,hv] at k4 k5;refine⟨(i,y.v S.lv) :: vs,on x (y.v S.lv)++nt,.cons (B6 hy).1 k1,E4 (B6 hy).2 k2,by rw [D6,C5,k3],?_,k5⟩;have s1:=TV.sz_v (f:=f) ha hq.1.2;have s2:=TV.sz_v (f:=S.lv) hb hq.2;have s3:=TV.Fa (f:=f) ho;obtain⟨s4,s5⟩:=TV.P3 (f:=S.lv) hb hq.2;simp only [R2,Bt (f:=f) hg,hp,s1,s2,s3,Nat.beq_refl,s4,Rw s4 s5,k4,Bool.and_self,Bool.not_false]
   ·cases h
  ·cases h
theorem Yp [Hid] (hN:d<B.N) (hS:S.ok) (h:Tg P S d t parts=some s):s.Ok P B ops ⟨some d,.build t parts.toArray,ty,pos,af,none⟩ S:=by
 unfold Tg at h;split at h
 ·rename_i fs hu;split at h
  ·rename_i places zs lf z hp hz hv;cases hb:zB P t z&&zs.lt (S.nl+lf.length) with
   | false=>rw [hb] at h;cases h
   | true =>
    rw [hb,cond_true] at h;simp only [Bool.and_eq_true] at hb;cases hr:Fo S places zs parts with
    | none=>rw [hr] at h;cases h
    | some r =>
     rw [hr] at h;cases h;obtain⟨vs,nt,k1,k2,k3,k4,k5⟩:=Pv (f:=S.push lf) (λc i hi=>D8 c i hi) hS (r:=r.1) (nt':=r.2) hr;have e:=B70 hz (St.hasAt lf);rw [hv] at e;have e:=Option.some.inj e;have hz':TyZ P t (.st (zs.vs (S.push lf))):=by
      have:=Dc hb.1;rw [e] at this;exact this
     exact⟨_,OpJ.build (Yo hu hp) hz' k1 k4 (r:=.st (r.1.vs (S.push lf))) (by rw [k5]) hN,k2,rfl,rfl,rfl,rfl,k3,rfl,rfl⟩
  ·cases h
 ·cases h
theorem Uz {c:Ty} (hd:c.dat false=true):∀ {l:List c.T} {i:Nat},i<=l.length->V.szL ((l.map λx=>V.d (c.enc x)).take i)=i*c.sz
 | l,0,_=>by simp [V.szL]
 | [],i+1,h=>by simp at h
 | x :: l,i+1,h=>by
  have:=Uz hd (l:=l) (i:=i) (by simpa using h);simp only [List.map_cons,List.take_succ_cons,V.szL,this];show(c.enc x).sz+i*c.sz=(i+1)*c.sz;rw [Ty.D7 hd,Nat.succ_mul,Nat.add_comm]
theorem Eb [Hid] (hS:S.ok) {c:Ty} (hd:c.dat false=true) {m:Nat}:∀ {parts:List (Nat×Operand)} {l r:List c.T} {nt':List Nat},l.length=m->V9 S c l parts=some (r,nt') ->
  ∃ vs nt,Ki parts vs nt∧rE S.e nt=rE' nt∧B8 nt=nt'∧R2 ((List.range m).map λi=>(i*c.sz,c.sz)) (l.map λx=>V.d (c.enc x)) vs=true∧(r.map λx=>V.d (c.enc x))=Q3 (l.map λx=>V.d (c.enc x)) vs∧r.length=m∧∀ p∈parts,p.1<m
 | [],l,r,nt',hl,h=>by
  simp only [V9,Option.some.injEq,Prod.mk.injEq] at h;obtain⟨rfl,rfl⟩:=h;exact⟨[],[],.nil,rfl,rfl,rfl,rfl,hl,λp hp=>by cases hp⟩
 | (i,x) :: ps,l,r,nt',hl,h=>by
  simp only [V9] at h;split at h
  ·rename_i y hy;split at h
   ·rename_i z hz;cases hi:Nat.blt i l.length with
    | false =>
     have h:(bif Nat.blt i l.length then (V9 S c (l.set i z) ps).map λr=>(r.1,rdk x++r.2) else none)=some (r,nt'):=h;rw [hi] at h;cases h
    | true =>
     have h:(bif Nat.blt i l.length then (V9 S c (l.set i z) ps).map λr=>(r.1,rdk x++r.2) else none)=some (r,nt'):=h;rw [hi,cond_true] at h;have hi:=TV.C2 hi;cases hr:V9 S c (l.set i z) ps with
     | none=>rw [hr] at h;cases h
     | some q =>
      rw [hr] at h;cases h;obtain⟨vs,nt,k1,k2,k3,k4,k5,k6,k7⟩:=Eb hS hd (m:=m) (parts:=ps) (l:=l.set i z) (r:=q.1) (nt':=q.2) (by rw [List.length_set];exact hl) hr;have hco:=W9 hz hd;rw [Fy] at k4 k5;refine⟨(i,.d (c.enc z)) :: vs,on x (y.v S.lv)++nt,.cons (Opd.co hco (B6 hy).1) k1,E4 (B6 hy).2 k2,by rw [D6,C5,k3],?_,k5,k6,λp hp => ?_⟩
      ·have g:(l.map λx=>V.d (c.enc x))[i]? = some (V.d (c.enc l[i])):=by simp [List.getElem?_eq_getElem hi]
       have g2:((List.range m).map λi=>(i*c.sz,c.sz))[i]? = some (i*c.sz,c.sz):=by simp [List.getElem?_range (show i<m by omega)]
       have s1:(V.d (c.enc l[i])).sz=c.sz:=Ty.D7 hd _;have s2:(V.d (c.enc z)).sz=c.sz:=Ty.D7 hd _;have s3:=Uz hd (l:=l) (i:=i) (by omega);simp only [R2,g,g2,s1,s2,s3,Nat.beq_refl,V.isTop,k4,Bool.and_self,Bool.not_false]
      ·rcases List.mem_cons.1 hp with rfl | hp
       ·show i<m;omega
       ·exact k7 p hp
   ·cases h
  ·cases h
theorem Kr {c:Ty} (hd:c.dat false=true):∀ l:List c.T,D.szs c.sz (l.map c.enc)=true
 | []=>rfl
 | x :: l=>by simp only [List.map_cons,D.szs,Ty.D7 hd,Nat.beq_refl,Kr hd l,Bool.and_self]
theorem Hm (l:List c.T):(l.map c.enc).map V.d=l.map λx=>V.d (c.enc x):=by simp
theorem Hn (m:Nat) (z:c.T):List.replicate m (V.d (c.enc z))=(List.replicate m z).map λx=>V.d (c.enc x):=by simp
theorem Va [Hid] {m:Nat} (hN:d<B.N) (hS:S.ok) (h:Np P S d t m parts=some s):s.Ok P B ops ⟨some d,.buildSlice t m parts.toArray,ty,pos,af,none⟩ S:=by
 unfold Np at h;split at h
 ·rename_i e hu;split at h
  ·rename_i c hc;cases hb:c.dat false&&tyB P e c.sz c.agg&&zB P e (.d (c.enc c.zero))&&Nat.blt 0 c.sz&&Nat.ble (m*c.sz) 16777216 with
   | false=>rw [hb] at h;cases h
   | true =>
    rw [hb,cond_true] at h;simp only [Bool.and_eq_true] at hb;cases hr:V9 S c (List.replicate m (typ.zero c)) parts with
    | none=>rw [hr] at h;cases h
    | some r =>
     rw [hr] at h;cases h;have hd:=hb.1.1.1.1;obtain⟨vs,nt,k1,k2,k3,k4,k5,k6,k7⟩:=Eb hS hd (m:=m) (r:=r.1) (nt':=r.2) (by simp) hr;rw [<- Hn] at k4 k5;rw [<- Hm] at k5;exact⟨_,OpJ.buildSlice hu (F0 hb.1.1.1.2) (Dc hb.1.1.2) (Ty.D7 hd _) (TV.C2 hb.1.2) (Nat.le_of_ble_eq_true hb.2) k1 k4 (es:=r.1.map c.enc) k5 (by rw [List.length_map];exact k6) (Kr hd _) k7 hN,k2,rfl,rfl,
      by simp only [eOf,List.map];exact congrArg (λl:List c.T=>[(d,V.d (.list c.sz (List.map c.enc l)))]) (F6 (c:=.list c)).symm,rfl,k3,rfl,rfl⟩
  ·cases h
 ·cases h
theorem A4b [Hid] (hN:d<B.N) (hS:S.ok) (h:A0h P S d t parts=some s):s.Ok P B ops ⟨some d,.build t parts.toArray,ty,pos,af,none⟩ S:=by
 unfold A0h at h;split at h
 ·rename_i m e hu;split at h
  ·rename_i c hc;cases hb:c.dat false&&tyB P e c.sz c.agg&&zB P t (.d ((Ty.arr m c).enc (Ty.arr m c).zero)) with
   | false=>rw [hb] at h;cases h
   | true =>
    rw [hb,cond_true] at h;simp only [Bool.and_eq_true] at hb;cases hr:V9 S c (List.replicate m (typ.zero c)) parts with
    | none=>rw [hr] at h;cases h
    | some r =>
     rw [hr] at h;cases h;have hd:=hb.1.1;obtain⟨vs,nt,k1,k2,k3,k4,k5,k6,k7⟩:=Eb hS hd (m:=m) (r:=r.1) (nt':=r.2) (by simp) hr;rw [<- Hn] at k4 k5;rw [<- Hm] at k5;have hz:TyZ P t (.d (.arr m c.sz (List.replicate m (c.enc c.zero)))):=by
      have:=Dc hb.2;have e:(Ty.arr m c).enc (Ty.arr m c).zero = .arr m c.sz (List.replicate m (c.enc c.zero)):=by
       show D.arr m c.sz (List.map c.enc (List.replicate m c.zero))=_;rw [List.map_replicate]
      rw [e] at this;exact this
     exact⟨_,OpJ.buildArr hu (F0 hb.1.2) hz k1 k4 (es:=r.1.map c.enc) k5 (by rw [List.length_map];exact k6) (Kr hd _) k7 hN,k2,rfl,rfl,
      by simp only [eOf,List.map];exact congrArg (λl:List c.T=>[(d,V.d (.arr m c.sz (List.map c.enc l)))]) (F6 (c:=.arr m c)).symm,rfl,k3,rfl,rfl⟩
  ·cases h
 ·cases h
theorem rF1 [Hid] {n:Nat} (h:A1 S.O n=none):rF S.o [n]=rF' [n]:=by simp only [rF,rF',F4,h,Option.map_none]
theorem Yq [Hid] (hB:B.ok) (hN:d<B.N) (hf:A1 S.O S.nx=none) (h:Th P S d t=some s):s.Ok P B ops ⟨some d,.alloc t,ty,pos,af,none⟩ S:=by
 unfold Th at h;split at h
 ·rename_i x lf z hz hv;cases hb:zB P t z&&Nat.ble 1000 S.nx with
  | false=>rw [hb] at h;cases h
  | true =>
   rw [hb] at h;cases h;simp only [Bool.and_eq_true] at hb;have e:=B70 hz (St.hasAt lf);rw [hv] at e;have e:=Option.some.inj e;have hz':=Dc hb.1;rw [e] at hz';exact⟨_,OpJ.alloc hB hz' (Nat.le_of_ble_eq_true hb.2) hN,rfl,rfl,rF1 hf,rfl,rfl,rfl,rfl,rfl⟩
 ·cases h
theorem A6v [Hid] (hB:B.ok) (hN:d<B.N) (hS:S.ok) (hf:A1 S.O S.nx=none) (h:A9i S d t x=some s):s.Ok P B ops ⟨some d,.box t x,ty,pos,af,none⟩ S:=by
 unfold A9i at h;split at h
 ·rename_i y hy;split at h
  ·rename_i m hm;cases hb:Nat.ble 1000 S.nx && !y.isL with
   | false=>rw [hb] at h;cases h
   | true =>
    rw [hb] at h;cases h;simp only [Bool.and_eq_true,Bool.not_eq_true'] at hb;obtain⟨h1,h2⟩:=TV.P3 (f:=S.lv) hm hb.2;exact⟨_,OpJ.box hB (Nat.le_of_ble_eq_true hb.1) h2 h1 hN (B6 hy).1,(B6 hy).2,rfl,rF1 hf,rfl,by simp only [oOf,List.map,Option.map,TOb.o,M8 (Al hS hy)],C5 _ _,rfl,rfl⟩
  ·cases h
 ·cases h
theorem A6w [Hid] (hN:d<B.N) (h:A9k P S d t x=some s):s.Ok P B ops ⟨some d,.call { callee:=.builtin .len,args:=#[x],argTypes:=#[t] },ty,pos,af,none⟩ S:=by
 unfold A9k at h;split at h
 ·rename_i e hu hx;cases h;exact ok1 hx rfl λnt hx=>OpJ.lenN hu hN hx
 ·rename_i e c j hu hx;cases h;refine ok1 hx E5 λnt hx => ?_;exact OpJ.val (congrArg (λn:Nat=>V.d (.int .i64 (n:Int))) (List.length_map ..)) (OpJ.lenD hu hN hx)
 ·rename_i e n c j hu hx;split at h
  ·rename_i b hn;cases h;exact Kk hx hn E5 λnt hx=>OpJ.lenS hu hN hx
  ·cases h
 ·rename_i tx hu hx;split at h
  ·rename_i s' hs;cases h;refine ok1 hx E5 λnt hx => ?_;rw [Q8 hs] at hx;exact OpJ.lenStr hu hN hx
  ·cases h
 ·cases h
theorem A1z [Hid] {m:Bool} {t t':TypeId} {s:Stp typ} (hN:d<B.N) (h:B3r S d m x y=some s):s.Ok P B ops ⟨some d,.call { callee:=.builtin (if m then .max else .min),args:=#[x,y],argTypes:=#[t,t'] },ty,pos,af,none⟩ S:=by
 unfold B3r at h;split at h
 ·rename_i k a k' b hx hy;split at h
  ·rename_i hk;subst hk;obtain⟨tx,e1,e2⟩:=E7 hx;obtain⟨ty',e3,e4⟩:=E7 hy;cases h;refine ok2 e1 e3 E5 λnt nt' hx hy => ?_;rw [e2] at hx;rw [e4] at hy;cases m
   ·exact OpJ.min hN hx hy
   ·exact OpJ.max hN hx hy
  ·cases h
 ·cases h
theorem A4c [Hid] (hN:d<B.N) (h:A0j P S d t x y=some s):s.Ok P B ops ⟨some d,.index t x y,ty,pos,af,none⟩ S:=by
 unfold A0j at h;split at h
 ·rename_i tx k a hu hx hy;obtain⟨ty',e3,e4⟩:=E7 hy;split at h
  ·rename_i s' hs;cases h;intro q hq;obtain⟨c,hc,hq⟩:=A33 (show(idx s' a).bind (λc=>some (c.toNat:Int))=some q from hq);cases hq;refine ok2 hx e3 E5 λnt nt' hx hy => ?_;rw [Q8 hs] at hx;rw [e4] at hy;exact OpJ.indexStr hu (P8 hc).1 (P8 hc).2 hN hx hy
  ·cases h
 ·cases h
end
end Go.Vc
namespace Go.Vc
open Go
section
variable {P:Program} {B:D5} {ops:Array Oper} {S:St typ} {ty:TypeId} {pos:String} {af:Array Edge} {d:Nat} {x y:Operand} {t:TypeId}
variable {l:List (Lf typ)} {n:Nat} {s:Stp typ} {c:Ty} {z:(Ty.list c).T}
theorem T2 [Hid]:(TV.sref n c S.nl).v (S.push (⟨.list c,z⟩ :: l)) = .sref n c.sz 0 (List.length (show List c.T from z)):=by
 have e:S.push (⟨.list c,z⟩ :: l) (.list c) S.nl=z:=F6;exact congrArg (λl:List c.T=>V.sref n c.sz 0 l.length) e
theorem P0 [Hid] {e:TypeId}:(TOb.row e c S.nl).o (S.push (⟨.list c,z⟩ :: l)) = .row e c.sz (List.map c.enc z) :=
 congrArg (λl:List c.T=>Ob.row e c.sz (l.map c.enc)) (F6 (c:=.list c))
theorem H8 {a b:Bool} (h:Bool.and a b=true):a=true∧b=true:=by rw [<- Bool.and_eq_true];exact h
theorem A6x [Hid] (hB:B.ok) (hN:d<B.N) (hS:S.ok) (hf:A1 S.O S.nx=none) (h:A9j P S d t x y=some s):s.Ok P B ops ⟨some d,.call { callee:=.builtin .append,args:=#[x,y],argTypes:=#[t,t] },ty,pos,af,none⟩ S:=by
 unfold A9j at h;split at h
 ·rename_i e tx ty' hu hx hy;split at h
  ·rename_i c hc;cases hb:Bl P e c.sz (bytesOf P e)&&Nat.ble (bytesOf P e) 32768&&Nat.ble 1000 S.nx&&c.dat false with
   | false=>rw [hb] at h;cases h
   | true =>
    rw [hb,cond_true] at h;simp only [Bool.and_eq_true] at hb;have hd:=hb.2;have hE:=W4 hb.1.1.1;have h1000:=Nat.le_of_ble_eq_true hb.1.2;split at h
    ·rename_i n c' j ys hys;split at h
     ·rename_i e' c2 i hn;cases hq:Nat.beq e' e&&decide (c'=c)&&decide (c2=c) with
      | false=>rw [hq] at h;cases h
      | true =>
       rw [hq,cond_true] at h;simp only [Bool.and_eq_true,decide_eq_true_eq] at hq;obtain⟨⟨he,rfl⟩,rfl⟩:=hq;have he:=Nat.eq_of_beq_eq_true he;subst he;cases h;intro hb';have hL:(decide (List.length (List.append (S.lv (.list c2) i) ys)<=LIM))=true∧List.length (S.lv (.list c2) j)=List.length (S.lv (.list c2) i):=by
        cases hij:Nat.beq i j with
        | true =>
         rw [hij] at hb';have:=Nat.eq_of_beq_eq_true hij;subst this;exact⟨hb',rfl⟩
        | false =>
         rw [hij] at hb';obtain⟨h1,h2⟩:=H8 hb';exact⟨h2,of_decide_eq_true h1⟩
       have hco:=W9 hys (show(Ty.list c2).dat false=true from hd);have hy2:=Opd.co hco (B6 hy).1;have hx2:=(B6 hx).1;refine⟨_,OpJ.append hB hu hE h1000 (n:=n) (es:=List.map c2.enc (S.lv (.list c2) i)) (ys:=List.map c2.enc ys) (es':=List.map c2.enc (List.append (S.lv (.list c2) i) ys)) (len:=List.length (List.append (S.lv (.list c2) i) ys)) (List.map_append ..) (List.length_map ..).symm ?_ ?_ ?_ hN (l0:=List.length (S.lv (.list c2) j)) ?_ hx2 hy2,E4 (B6 hx).2 (B6 hy).2,?_,rF1 hf,?_,?_,by rw [D6,C5,C5],rfl,rfl⟩
       ·intro z hz;obtain⟨w,_,rfl⟩:=List.mem_map.1 hz;exact Ty.D7 hd _
       ·rw [List.length_map];exact Y9 hL.1 hb.1.1.2
       ·rw [List.length_map];exact Fz hL.1
       ·rw [List.length_map];exact hL.2
       ·simp only [rO,rO',F4,hn,Option.map_some];rfl
       ·simp only [eOf,List.map,T2]
       ·simp only [oOf,List.map,Option.map,P0]
     ·cases h
    ·rename_i ys hys;cases h;intro hL;have hco:=W9 hys (show(Ty.list c).dat false=true from hd);have hy2:=Opd.co hco (B6 hy).1;have hx2:=(B6 hx).1;refine⟨_,OpJ.appendN hB hu hE h1000 (ys:=List.map c.enc ys) (len:=List.length ys) (List.length_map ..).symm ?_ ?_ ?_ hN hx2 hy2,E4 (B6 hx).2 (B6 hy).2,rfl,rF1 hf,?_,?_,by rw [D6,C5,C5],rfl,rfl⟩
     ·intro z hz;obtain⟨w,_,rfl⟩:=List.mem_map.1 hz;exact Ty.D7 hd _
     ·rw [List.length_map];exact Y9 hL hb.1.1.2
     ·rw [List.length_map];exact Fz hL
     ·simp only [eOf,List.map,T2]
     ·simp only [oOf,List.map,Option.map,P0]
    ·cases h
  ·cases h
 ·cases h
theorem A4d [Hid] (hB:B.ok) (hN:d<B.N) (hf:A1 S.O S.nx=none) (h:A0i P S d t x y=some s):s.Ok P B ops ⟨some d,.makeSlice t x y,ty,pos,af,none⟩ S:=by
 unfold A0i at h;split at h
 ·rename_i e k a k' b hu hx hy;obtain⟨tx,e1,e2⟩:=E7 hx;obtain⟨ty',e3,e4⟩:=E7 hy;split at h
  ·rename_i c hc;cases hb:Bl P e c.sz (bytesOf P e)&&Nat.ble (bytesOf P e) 65536&&Nat.ble 1000 S.nx&&c.dat false&&zB P e (.d (c.enc c.zero)) with
   | false=>rw [hb] at h;cases h
   | true =>
    rw [hb,cond_true] at h;simp only [Bool.and_eq_true] at hb;split at h
    ·rename_i hk;subst hk;cases h;intro hq;obtain⟨h1,h2⟩:=H8 hq;obtain⟨h3,h4⟩:=H8 h1;have h2:V2 b=true:=h2;simp only [V2,Bool.and_eq_true,decide_eq_true_eq] at h2;have h3:=of_decide_eq_true (show Cm a=true from h3);have h4:=of_decide_eq_true (show A0b .leq a b=true from h4);have hx2:=(B6 e1).1;have hy2:=(B6 e3).1;rw [e2] at hx2;rw [e4] at hy2;refine⟨_,OpJ.make hB hu (W4 hb.1.1.1.1) (Dc hb.2) (Ty.D7 hb.1.2 _) (Nat.le_of_ble_eq_true hb.1.1.2) h3 h4 (B1w h2.2 hb.1.1.1.2) (B5c h2.2) hN (es:=List.map c.enc (List.replicate (Int.toNat a) c.zero)) (by rw [List.map_replicate]) (List.length_map ..).symm hx2 hy2,E4 (e2 ▸ (B6 e1).2) (e4 ▸ (B6 e3).2),rfl,rF1 hf,?_,?_,by rw [D6,C5,C5],rfl,rfl⟩
     ·simp only [eOf,List.map,T2]
     ·simp only [oOf,List.map,Option.map,P0]
    ·cases h
  ·cases h
 ·cases h
theorem U2 {a:Int} (h:leT a n=true):0<=a∧a.toNat<=n:=by
 simp only [leT,Bool.and_eq_true,decide_eq_true_eq] at h;exact h
theorem A6y [Hid] {lo hi:Option Operand} (hN:d<B.N) (h:A9l P S d t x lo hi=some s):s.Ok P B ops ⟨some d,.slice t x lo hi none,ty,pos,af,none⟩ S:=by
 unfold A9l at h;split at h
 ·rename_i e c j hu hx;cases hb:tyB P e c.sz c.agg&&c.dat false with
  | false=>rw [hb] at h;cases h
  | true =>
   rw [hb,cond_true] at h;simp only [Bool.and_eq_true] at hb;have hx2:=(B6 hx).1;have fin:∀ {zs:List c.T} {lo hi:Option Operand} {l hh:Nat} {nl nh:EL} {kl kh:List Nat},
     (lo=none∧l=0∧nl=[]∨∃ o k n,lo=some o∧Opd o (.d (.int k n)) nl∧0<=n∧l=n.toNat)->(hi=none∧hh=(List.map c.enc (S.lv (.list c) j)).length∧nh=[]∨∃ o k n,hi=some o∧Opd o (.d (.int k n)) nh∧0<=n∧hh=n.toNat) ->
     l<=hh->hh<=List.length (S.lv (.list c) j)->zs=List.drop l (List.take hh (S.lv (.list c) j))->rE S.e nl=rE' nl->rE S.e nh=rE' nh->B8 nl=kl->B8 nh=kh ->
     OkO P B ops ⟨some d,.slice t x lo hi none,ty,pos,af,none⟩ S [⟨.list c,zs⟩] { nt:=rdk x++(kl++kh),wt:=[(d,.d (.list c) S.nl)] }:=fun {zs lo hi l hh nl nh kl kh} h1 h2 h3 h4 h5 h6 h7 h8 h9 =>
    ⟨_,OpJ.cutD hu (F0 hb.1) (es:=List.map c.enc (S.lv (.list c) j)) (es':=List.map c.enc zs) h1 h2 h3 (by rw [List.length_map];exact h4) (by rw [h5,List.map_drop,List.map_take]) hN hx2,E4 (B6 hx).2 (E4 h6 h7),rfl,rfl,by simp only [eOf,List.map,E5];rfl,rfl,by rw [D6,D6,C5,h8,h9],rfl,rfl⟩
   have len:(List.map c.enc (S.lv (.list c) j)).length=List.length (S.lv (.list c) j):=List.length_map ..;split at h
   ·cases h;have:=fin (zs:=S.lv (.list c) j) (l:=0) (hh:=List.length (S.lv (.list c) j)) (.inl ⟨rfl,rfl,rfl⟩) (.inl ⟨rfl,len.symm,rfl⟩) (Nat.zero_le _) (Nat.le_refl _) (by rw [List.take_length];rfl) rfl rfl rfl rfl;simpa [B8,Stp.Ok] using this
   ·rename_i l;split at h
    ·rename_i k a hl;obtain⟨tx,e1,e2⟩:=E7 hl;cases h;intro hq;obtain⟨g1,g2⟩:=U2 hq;have:=fin (zs:=List.drop (Int.toNat a) (S.lv (.list c) j)) (l:=Int.toNat a) (hh:=List.length (S.lv (.list c) j)) (.inr ⟨l,k,a,rfl,e2 ▸ (B6 e1).1,g1,rfl⟩) (.inl ⟨rfl,len.symm,rfl⟩) g2 (Nat.le_refl _) (by rw [List.take_length]) (B6 e1).2 rfl (C5 _ _) rfl;simpa [B8,Stp.Ok] using this
    ·cases h
   ·rename_i hh;split at h
    ·rename_i k a hl;obtain⟨tx,e1,e2⟩:=E7 hl;cases h;intro hq;obtain⟨g1,g2⟩:=U2 hq;have:=fin (zs:=List.take (Int.toNat a) (S.lv (.list c) j)) (l:=0) (hh:=Int.toNat a) (.inl ⟨rfl,rfl,rfl⟩) (.inr ⟨hh,k,a,rfl,e2 ▸ (B6 e1).1,g1,rfl⟩) (Nat.zero_le _) g2 rfl rfl (B6 e1).2 rfl (C5 _ _);simpa [B8,Stp.Ok] using this
    ·cases h
   ·rename_i l hh;split at h
    ·rename_i k a k' b hl hh';obtain⟨tx,e1,e2⟩:=E7 hl;obtain⟨tx',e3,e4⟩:=E7 hh';cases h;intro hq;obtain⟨q1,q2⟩:=H8 hq;obtain⟨g1,g2⟩:=U2 q1;obtain⟨g3,g4⟩:=U2 q2;have g4:Int.toNat a<=(List.take (Int.toNat b) (S.lv (.list c) j)).length:=g4;rw [List.length_take] at g4;exact fin (l:=Int.toNat a) (hh:=Int.toNat b) (.inr ⟨l,k,a,rfl,e2 ▸ (B6 e1).1,g3,rfl⟩) (.inr ⟨hh,k',b,rfl,e4 ▸ (B6 e3).1,g1,rfl⟩) (by omega) g2 rfl (B6 e1).2 (B6 e3).2 (C5 _ _) (C5 _ _)
    ·cases h
 ·cases h
theorem A20 [Hid]:∀ {xs:List Operand} {l:TV} {nt':List Nat},A9m S xs=some (l,nt')->∃ nt,Gz xs (l.vs S.lv) nt∧rE S.e nt=rE' nt∧B8 nt=nt'
 | [],l,nt',h=>by
  simp only [A9m,Option.some.injEq,Prod.mk.injEq] at h;obtain⟨rfl,rfl⟩:=h;exact⟨[],.nil,rfl,rfl⟩
 | x :: xs,l,nt',h=>by
  simp only [A9m] at h;split at h
  ·rename_i y l' nt hy hl;cases h;obtain⟨nt2,k1,k2,k3⟩:=A20 hl;exact⟨_,.cons (B6 hy).1 k1,E4 (B6 hy).2 k2,by rw [D6,C5,k3]⟩
  ·cases h
theorem Vb [Hid] {f:Val}:∀ {l:TV},l.allOk=true->(l.vs f).all (λv => !v.isAgg&&(match v with | .junk=>false | _=>true))=true∧(l.vs f).all Q4=true
 | .nil,_=>⟨rfl,rfl⟩
 | .cons a b,h=>by
  simp only [TV.allOk,Bool.and_eq_true,Bool.not_eq_true'] at h;obtain⟨h1,h2⟩:=Vb (f:=f) (l:=b) h.2;cases hs:a.sz? with
  | none=>rw [hs] at h;simp at h
  | some m =>
   have ha:=TV.Et (f:=f) h.1.2 (by rw [hs];simp);obtain⟨h3,h4⟩:=TV.P3 (f:=f) hs h.1.2;have e:(TV.cons a b).vs f=a.v f :: b.vs f:=rfl;rw [e,List.all_cons,List.all_cons,h1,h2];refine⟨?_,by simp [Q4,h3]⟩;rw [ha,h.1.1.2];generalize a.v f=v at h4;cases v<;>first | rfl | exact absurd rfl h4
 | .junk,h | .undef,h | .d _ _,h | .kb _,h | .ki _ _,h | .ks _,h | .nils,h | .cst _,h | .ptr _ _ _,h | .eptr ..,h | .aptr ..,h | .dptr _ _,h | .sref _ _ _,h | .qref _ _,h | .qptr _ _ _,h | .tref ..,h | .func _ _,h | .st _,h | .tup _,h | .opt _ _ _,h | .mref _,h=>by simp [TV.allOk] at h
theorem A6z [Hid] {f:FuncId} {caps:List Operand} (hN:d<B.N) (hS:S.ok) (h:A9n S d f caps=some s):s.Ok P B ops ⟨some d,.makeFunc (.func f) #[] caps.toArray,ty,pos,af,none⟩ S:=by
 unfold A9n at h;split at h
 ·rename_i l nt hl;cases hb:l.allOk&&l.lt S.nl with
  | false=>rw [hb] at h;cases h
  | true =>
   rw [hb] at h;cases h;simp only [Bool.and_eq_true] at hb;obtain⟨nt2,k1,k2,k3⟩:=A20 hl;obtain⟨h1,h2⟩:=Vb (f:=S.lv) hb.1;exact⟨_,OpJ.makeF k1 h1 h2 hN,k2,rfl,rfl,by
    have:=M8 (S:=S) (lf:=[]) (x:=.func f l) hb.2;simp only [eOf,List.map,this];rfl,rfl,k3,rfl,rfl⟩
 ·cases h
end
end Go.Vc
namespace Go.Vc
open Go
variable {P:Program} {B:D5} {ops:Array Oper}
section
variable {d:Nat} {x y:Operand} {ty:TypeId} {pos:String} {af:Array Edge} {nt nt':List (Nat×V)}
variable {a b:List UInt8} {xt yt:TypeId}
def B72 (xs:List Int):List UInt8:=xs.map λn=>UInt8.ofNat n.toNat
theorem Vd {Z:Nat->Prop} {w:World}:∀ (xs:List Int) (b o:Nat),D.repE Z w 1 (xs.map (eI .u8)) b o->∀ i,i<xs.length->w.cell? ⟨b,o+i,none⟩=some (.int .u8 (xs.getD i 0))
 | [],_,_,_,i,hi=>by simp at hi
 | x :: xs,b,o,h,i,hi=>by
  obtain⟨⟨cs,h1,h2⟩,h3⟩:=h;cases i with
  | zero =>
   have hc:cs=[.int .u8 x]:=h2;subst hc;simpa using h1 0 _ rfl
  | succ i =>
   have:=Vd xs b (o+1) h3 i (by simpa using hi);rw [show o+(i+1)=o+1+i from by omega];simpa using this
theorem OpJ.bytesStr {src dst e:TypeId} {xs:List Int} (hs:P.underlying src=some (.slice e)) (he:P.underlying e=some (.int .u8)) (hd:P.underlying dst=some .string) (hN:d<B.N) (hx:Opd x (.d (.list 1 (xs.map (eI .u8)))) nt) :
  OpJ P B ops ⟨some d,.convert src dst x,ty,pos,af,none⟩ { nt,wt:=[(d,.d (.str (B72 xs)))] } :=
 OpJ.pure rfl rfl hN λenv ob a w σ Z s h=>by
  obtain⟨ad,c,hv,h1,h2,h3⟩:=U0 (hx B env ob a w σ Z s h);refine⟨.string ⟨(B72 xs).toArray⟩,?_,Cq _⟩;have hrun:(convert src dst (.slice ad (xs.map (eI .u8)).length c)).run P w = .ok (.string ⟨(B72 xs).toArray⟩) w:=by
   rw [List.length_map];rcases h3 with h3 | ⟨b,o,ha,hz,hsz,hre⟩
   ·have:xs=[]:=by simpa using h3
    subst this;cases ad with
    | none=>exact run_convert_bytes_nil w src e hs he 0 c dst hd
    | some q =>
     rw [List.length_nil,run_convert_bytes_string w src dst e (some q) 0 c hs he hd,run_bytesToString w q 0 c [] (by simp [loadCells,loadCellsFrom])];rfl
   ·subst ha;exact run_convert_bytes_arg w src e hs he b o xs.length c xs rfl (Vd xs b o hre) dst hd
  simp only [execOp,hv,hrun,Sem.run_bind,Result.andThen_ok,Sem.run_pure]
theorem Lv (a:List UInt8):(⟨a.toArray⟩:ByteArray).toList=a:=by rw [ByteArray.toList_eq]
theorem OpJ.eqlS (hN:d<B.N) (hx:Opd x (.d (.str a)) nt) (hy:Opd y (.d (.str b)) nt') :
  OpJ P B ops ⟨some d,.binOp .eql xt x y yt,ty,pos,af,none⟩ { nt:=nt++nt',wt:=[(d,.d (.bool (a==b)))] } :=
 OpJ.pure rfl rfl hN λenv ob c w σ Z s hn=>by
  obtain⟨h1,h2⟩:=B4 hn;have e1:=P5 (hx B env ob c w σ Z s h1);have e2:=P5 (hy B env ob c w σ Z s h2);have g:(eqGuard .eql xt x y (.string ⟨a.toArray⟩) (.string ⟨b.toArray⟩)).run P w = .ok () w:=by simp [eqGuard]
  exact⟨.bool (a==b),by simp [execOp,e1,e2,binOp,g,Op.stringOp,Lv],H3 _⟩
theorem OpJ.neqS (hN:d<B.N) (hx:Opd x (.d (.str a)) nt) (hy:Opd y (.d (.str b)) nt') :
  OpJ P B ops ⟨some d,.binOp .neq xt x y yt,ty,pos,af,none⟩ { nt:=nt++nt',wt:=[(d,.d (.bool (a != b)))] } :=
 OpJ.pure rfl rfl hN λenv ob c w σ Z s hn=>by
  obtain⟨h1,h2⟩:=B4 hn;have e1:=P5 (hx B env ob c w σ Z s h1);have e2:=P5 (hy B env ob c w σ Z s h2);have g:(eqGuard .neq xt x y (.string ⟨a.toArray⟩) (.string ⟨b.toArray⟩)).run P w = .ok () w:=by simp [eqGuard]
  exact⟨.bool (a != b),by simp [execOp,e1,e2,binOp,g,Op.stringOp,Lv,bne],H3 _⟩
end
end Go.Vc
namespace Go.Vc
open Go
section
variable {P:Program} {B:D5} {ops:Array Oper} {d:Nat} {x y:Operand} {xt yt ty:TypeId} {pos:String} {af:Array Edge} {nt nt' nl nh:List (Nat×V)}
variable {Z:Nat->Prop} {w:World}
theorem B22 (a b:List UInt8):(⟨a.toArray⟩:ByteArray)++⟨b.toArray⟩=⟨(a++b).toArray⟩:=by
 rw [ByteArray.ext_iff,ByteArray.data_append];simp
theorem OpJ.catS {a b:List UInt8} (hl:(a++b).length<=LIM) (hN:d<B.N) (hx:Opd x (.d (.str a)) nt) (hy:Opd y (.d (.str b)) nt') :
  OpJ P B ops ⟨some d,.binOp .add xt x y yt,ty,pos,af,none⟩ { nt:=nt++nt',wt:=[(d,.d (.str (a++b)))] } :=
 OpJ.pure rfl rfl hN λenv ob c w σ Z s hn=>by
  obtain⟨h1,h2⟩:=B4 hn;have e1:=P5 (hx B env ob c w σ Z s h1);have e2:=P5 (hy B env ob c w σ Z s h2);have g:(eqGuard .add xt x y (.string ⟨a.toArray⟩) (.string ⟨b.toArray⟩)).run P w = .ok () w:=by simp [eqGuard]
  have hs:¬ (((⟨a.toArray⟩:ByteArray).size+(⟨b.toArray⟩:ByteArray).size:Nat):Int) > IntKind.i64.max:=by
   have e:IntKind.i64.max=9223372036854775807:=rfl;have e2:(⟨a.toArray⟩:ByteArray).size+(⟨b.toArray⟩:ByteArray).size=(a++b).length:=by simp [ByteArray.size]
   rw [e,e2];simp only [LIM] at hl;omega
  refine⟨.string ⟨(a++b).toArray⟩,?_,Cq _⟩;simp only [execOp,e1,e2,binOp,Sem.run_bind,g,Result.andThen_ok,Op.stringOp];rw [if_neg hs,Sem.run_pure,B22];simp only [Result.andThen_ok,Sem.run_pure]
theorem Am (s:List UInt8) (l h:Nat):(⟨s.toArray⟩:ByteArray).extract l h=⟨((s.take h).drop l).toArray⟩:=by
 rw [ByteArray.ext_iff,ByteArray.data_extract];apply Array.toList_inj.1;simp [List.extract,List.drop_take]
theorem A70 (w:World) (t:TypeId) (hu:P.underlying t=some .string) (s:List UInt8) (lo hi:Option Value) (l h:Nat)
  (hlo:lo=none∧l=0∨∃ k n,lo=some (.int k n)∧0<=n∧l=n.toNat) (hhi:hi=none∧h=s.length∨∃ k n,hi=some (.int k n)∧0<=n∧h=n.toNat) (h1:l<=h) (h2:h<=s.length) :
  (Instr.sliceAt t (.string ⟨s.toArray⟩) lo hi none).run P w = .ok (.string ⟨((s.take h).drop l).toArray⟩) w:=by
 have hb:∀ (n:Int) (k:IntKind) (y:Nat) (code:BoundsCode),0<=n->n.toNat<=y->(Instr.sliceBound (.int k n) y code).run P w = .ok n.toNat w:=by
  intro n k y code h0 hy;have:n<=(y:Int):=by omega
  simp [Instr.sliceBound,asIntOf,h0,this]
 have hsz:(⟨s.toArray⟩:ByteArray).size=s.length:=by simp [ByteArray.size]
 rcases hlo with ⟨rfl,rfl⟩ | ⟨k,n,rfl,hn,rfl⟩
 ·rcases hhi with ⟨rfl,rfl⟩ | ⟨k',n',rfl,hn',rfl⟩
  ·simp [Instr.sliceAt,Instr.slice,run_underlying hu,Instr.sliceBounds,hsz,Am]
  ·have e2:=hb n' k' s.length .sliceAlen hn' h2;simp [Instr.sliceAt,Instr.slice,run_underlying hu,Instr.sliceBounds,hsz,e2,Am]
 ·rcases hhi with ⟨rfl,rfl⟩ | ⟨k',n',rfl,hn',rfl⟩
  ·have e1:=hb n k s.length .sliceB hn h1;simp [Instr.sliceAt,Instr.slice,run_underlying hu,Instr.sliceBounds,hsz,e1,Am]
  ·have e1:=hb n k n'.toNat .sliceB hn h1;have e2:=hb n' k' s.length .sliceAlen hn' h2;simp [Instr.sliceAt,Instr.slice,run_underlying hu,Instr.sliceBounds,hsz,e1,e2,Am]
theorem OpJ.cutStr {t:TypeId} (hu:P.underlying t=some .string) {s s':List UInt8} {lo hi:Option Operand} {l h:Nat} (hlo:(lo=none∧l=0∧nl=[])∨∃ o k n,lo=some o∧Opd o (.d (.int k n)) nl∧0<=n∧l=n.toNat) (hhi:(hi=none∧h=s.length∧nh=[])∨∃ o k n,hi=some o∧Opd o (.d (.int k n)) nh∧0<=n∧h=n.toNat) (h1:l<=h) (h2:h<=s.length) (hs:s'=(s.take h).drop l) (hN:d<B.N) (hx:Opd x (.d (.str s)) nt) :
  OpJ P B ops ⟨some d,.slice t x lo hi none,ty,pos,af,none⟩ { nt:=nt++(nl++nh),wt:=[(d,.d (.str s'))] } :=
 OpJ.pure rfl rfl hN λenv ob a w σ Z sm hne=>by
  obtain⟨g1,g23⟩:=B4 hne;obtain⟨g2,g3⟩:=B4 g23;have hv:=P5 (hx B env ob a w σ Z sm g1);have hr:=A70 (P:=P) w t hu s (lo.map a.eval) (hi.map a.eval) l h
   (by
    rcases hlo with ⟨rfl,h0,_⟩ | ⟨o,k,n,rfl,ho,hn,hl⟩
    ·exact .inl ⟨rfl,h0⟩
    ·exact .inr ⟨k,n,by simp [E6 (ho B env ob a w σ Z sm g2)],hn,hl⟩)
   (by
    rcases hhi with ⟨rfl,h0,_⟩ | ⟨o,k,n,rfl,ho,hn,hl⟩
    ·exact .inl ⟨rfl,h0⟩
    ·exact .inr ⟨k,n,by simp [E6 (ho B env ob a w σ Z sm g3)],hn,hl⟩)
   h1 h2
  refine⟨.string ⟨s'.toArray⟩,?_,Cq _⟩;simp only [execOp,hv,Sem.run_bind,Option.map_none,hr,Result.andThen_ok,hs];rfl
theorem Sim.strBytes {env:Env} {ob:Obs} {a:Act} {σ:Nat->Option Nat} (sm:Sim B env ob a w σ Z) (o:Obj):Sim B env ob a (w.drew.alloc o) σ (λb=>Z b∨b=w.heap.size):=sm.drew.allocZ o
theorem Ti (s:List UInt8):D.repL Z w ((J7 s).map (eI .u8)) (s.map λb=>Value.int .u8 b.toNat):=by
 induction s with
 | nil=>rfl
 | cons b s ih=>exact⟨[.int .u8 b.toNat],_,rfl,rfl,ih⟩
theorem OpJ.strBytes {src dst e:TypeId} {s:List UInt8} (hs:P.underlying src=some .string) (hd:P.underlying dst=some (.slice e)) (he:P.underlying e=some (.int .u8)) (hl:s.length<=LIM) (hN:d<B.N) (hx:Opd x (.d (.str s)) nt) :
  OpJ P B ops ⟨some d,.convert src dst x,ty,pos,af,none⟩ { nt,wt:=[(d,.d (.list 1 ((J7 s).map (eI .u8))))] } :=
 OpJ.run rfl rfl hN rfl λenv ob a w σ Z sm hne=>by
  have hv:=P5 (hx B env ob a w σ Z sm hne.1);have hr:=run_bytes_of_string (P:=P) w src dst e ⟨s.toArray⟩ hs hd he;have hsz:(⟨s.toArray⟩:ByteArray).size=s.length:=by simp [ByteArray.size]
  rw [hsz] at hr;have hge:=grownCap_ge w s.length 0 e;have hle:=grownCap_le_maxLen w s.length 0 e (by simp only [LIM] at hl;simp only [maxLen];omega);generalize hC:bytesRow ⟨s.toArray⟩ (grownCap w s.length 0 e)=C at hr;generalize hK:grownCap w s.length 0 e=cap at hr hge hle hC;have s1:=sm.strBytes (.cells C e (C.size,C.size+1));have hel:((J7 s).map (eI .u8)).length=s.length:=by simp [J7]
  refine⟨.slice (some ⟨w.heap.size,0,none⟩) s.length cap,_,σ,_,?_,by rw [C9 _ rfl];exact s1,?_⟩
  ·simp only [execOp,hv,Sem.run_bind,hr,Result.andThen_ok,Sem.run_pure]
  ·rw [C9 _ rfl];have hat:G6 (w.drew.alloc (.cells C e (C.size,C.size+1))) w.heap.size 0 (s.map λb=>Value.int .u8 b.toNat):=λj v hj=>by
    rw [Nat.zero_add];have:=World.cell?_alloc_mark w.drew C e (C.size,C.size+1) j;have hz:w.drew.heap.size=w.heap.size:=rfl;rw [hz] at this;rw [this,<- hC];have hlt:=(List.getElem?_eq_some_iff.1 hj).1;rw [bytesRow,Array.getElem?_append_left (by simpa using hlt)];simpa using hj
   refine⟨⟨some ⟨w.heap.size,0,none⟩,cap,by rw [hel],by omega,by simp only [maxLen] at hle;omega,.inr ⟨w.heap.size,0,rfl,.inr rfl,λq hq => ?_,D.repE_of_repL _ _ _ _ (Ti s) (λq hq => ?_) hat⟩⟩,.inr rfl⟩
   all_goals
    obtain⟨n,_,rfl⟩:=List.mem_map.1 hq;rfl
end
def eqF (h:TypeId->Ty->Bool) (P:Program):Nat->List Field->Ty->Bool
 | _,[],.nil=>true
 | o,[f],c=>(f.name != "_")&&Nat.beq f.offset o&&tyB P f.type c.sz c.agg&&c.dat false&&h f.type c
 | o,f :: fs,.pr a b=>(f.name != "_")&&Nat.beq f.offset o&&tyB P f.type a.sz a.agg&&a.dat false&&h f.type a&&eqF h P (o+a.sz) fs b
 | _,_,_=>false
def eqB (P:Program):Nat->TypeId->Ty->Bool
 | 0,_,_=>false
 | n+1,t,c=>match c,P.underlying t with
  | .bool,some .bool=>true
  | .int _,some (.int _)=>true
  | .str,some .string=>true
  | .st b,some (.struct fs) => !P.stoodInHeld t&&eqF (eqB P n) P 0 fs.toList b
  | .arr m e,some (.array m' et)=>Nat.beq m m'&&tyB P et e.sz e.agg&&e.dat false&&(P.info? et).isSome&&eqB P n et e
  | _,_=>false
section
variable {P:Program}
def A9o (P:Program) (n:Nat) (t:TypeId) (c:Ty):Prop:=∀ (d:Nat),n<=d->∀ (w w1 w2:World) (Z Z':Nat->Prop) (x y:c.T) (cx cy:List Value),D.rep Z w1 (c.enc x) cx->D.rep Z' w2 (c.enc y) cy ->
 (Op.equalIn d t (D3 c.agg cx) (D3 c.agg cy)).run P w = .ok (c.eqT x y) w
theorem B23 {n:Nat} {h:TypeId->Ty->Bool} (hh:∀ t c,h t c=true->A9o P n t c):∀ {fs:List Field} {c:Ty} {o:Nat},eqF h P o fs c=true->∀ {d:Nat},n<=d->∀ {w w1 w2:World} {Z Z':Nat->Prop} {x y:c.T} {px py cx cy:List Value},
  px.length=o->py.length=o->D.repL Z w1 (c.encs x) cx->D.repL Z' w2 (c.encs y) cy->(Op.eqFields d (px++cx).toArray (py++cy).toArray fs).run P w = .ok (c.eqT x y) w:=by
 have one:∀ {f:Field} {c:Ty} {o:Nat},((f.name != "_")&&Nat.beq f.offset o&&tyB P f.type c.sz c.agg&&c.dat false&&h f.type c)=true->∀ {d:Nat},n<=d->∀ {w w1 w2:World} {Z Z':Nat->Prop} {x y:c.T} {px py c1 c2 e1 e2:List Value},
   px.length=o->py.length=o->D.rep Z w1 (c.enc x) c1->D.rep Z' w2 (c.enc y) e1->∀ fs,(Op.eqFields d (px++(c1++c2)).toArray (py++(e1++e2)).toArray (f :: fs)).run P w =
    (if c.eqT x y=true then (Op.eqFields d (px++(c1++c2)).toArray (py++(e1++e2)).toArray fs).run P w else .ok false w):=by
  intro f c o hf d hd w w1 w2 Z Z' x y px py c1 c2 e1 e2 hpx hpy r1 r2 fs;simp only [Bool.and_eq_true,bne_iff_ne,ne_eq] at hf;obtain⟨⟨⟨⟨f1,f2⟩,f3⟩,f4⟩,f5⟩:=hf;have f2:=Nat.eq_of_beq_eq_true f2;have ht:=F0 f3;have l1:=D.rep_len _ _ r1;have l2:=D.rep_len _ _ r2;rw [Ty.D7 f4] at l1 l2;have s1:c.agg=false->c.sz=1:=λe=>by
   rw [<- Ty.D7 f4 x];exact D.sz_one (by rw [Ty.O4 f4,e])
  have p1:=I0 ht w px c1 c2 l1 s1 (hpx.trans f2.symm);have p2:=I0 ht w py e1 e2 l2 s1 (hpy.trans f2.symm);have pe:=hh _ _ f5 d hd w w1 w2 Z Z' x y c1 e1 r1 r2;rw [List.append_assoc] at p1 p2;simp only [Op.eqFields,f1,ne_eq,not_false_eq_true,if_true,Sem.run_bind,p1,p2,pe,Result.andThen_ok];cases c.eqT x y<;>simp
 intro fs;induction fs with
 | nil =>
  intro c o hf d hd w w1 w2 Z Z' x y px py cx cy _ _ _ _;cases c<;>simp [eqF] at hf;simp [Op.eqFields,Ty.eqT]
 | cons f fs ih =>
  intro c o hf d hd w w1 w2 Z Z' x y px py cx cy hpx hpy rx ry;cases fs with
  | nil =>
   have hf:((f.name != "_")&&Nat.beq f.offset o&&tyB P f.type c.sz c.agg&&c.dat false&&h f.type c)=true:=by
    cases c<;>exact hf
   have hdat:c.dat false=true:=by simp only [Bool.and_eq_true] at hf;exact hf.1.2
   rw [Ty.F2 hdat] at rx ry;obtain⟨c1,c2,rfl,r1,r2⟩:=rx;obtain⟨e1,e2,rfl,g1,g2⟩:=ry;rw [one hf hd hpx hpy r1 g1 []];cases hq:c.eqT x y<;>simp [Op.eqFields]
  | cons f2 fs =>
   cases c with
   | pr a b =>
    have hf:((f.name != "_")&&Nat.beq f.offset o&&tyB P f.type a.sz a.agg&&a.dat false&&h f.type a&&eqF h P (o+a.sz) (f2 :: fs) b)=true:=hf;rw [Bool.and_eq_true] at hf;obtain⟨hf1,hf2⟩:=hf;have hdat:a.dat false=true:=by simp only [Bool.and_eq_true] at hf1;exact hf1.1.2
    have ex:(Ty.pr a b).encs x=a.enc x.1 :: b.encs x.2:=by show a.encs x.1++b.encs x.2=_;rw [Ty.F2 hdat];rfl
    have ey:(Ty.pr a b).encs y=a.enc y.1 :: b.encs y.2:=by show a.encs y.1++b.encs y.2=_;rw [Ty.F2 hdat];rfl
    rw [ex] at rx;rw [ey] at ry;obtain⟨c1,c2,rfl,r1,r2⟩:=rx;obtain⟨e1,e2,rfl,g1,g2⟩:=ry;have l1:=D.rep_len _ _ r1;have l2:=D.rep_len _ _ g1;rw [Ty.D7 hdat] at l1 l2;rw [one hf1 hd hpx hpy r1 g1 (f2 :: fs)];have:=ih (c:=b) hf2 hd (w:=w) (px:=px++c1) (py:=py++e1) (by rw [List.length_append];omega) (by rw [List.length_append];omega) r2 g2;rw [List.append_assoc,List.append_assoc] at this;rw [this];show(if a.eqT x.1 y.1=true then _ else _)=Result.ok (a.eqT x.1 y.1&&b.eqT x.2 y.2) w;cases a.eqT x.1 y.1<;>simp
   | _=>simp [eqF] at hf
theorem Jv {n:Nat} {et:TypeId} {e:Ty} (he:A9o P n et e) (ht:TyS P et e.sz e.agg) (hd:e.dat false=true) {d:Nat} (hn:n<=d) {w w1 w2:World} {Z Z':Nat->Prop}:∀ (xs ys:List e.T) (px py cx cy:List Value) (k:Nat),xs.length=ys.length->px.length=k*e.sz->py.length=k*e.sz ->
  D.repL Z w1 (xs.map e.enc) cx->D.repL Z' w2 (ys.map e.enc) cy->(Op.eqItems d et e.sz (px++cx).toArray (py++cy).toArray ((List.range' k xs.length))).run P w = .ok (Ty.eqL e.eqT xs ys) w
 | [],[],px,py,cx,cy,k,_,_,_,_,_=>by simp [Op.eqItems,Ty.eqL]
 | x :: xs,y :: ys,px,py,cx,cy,k,hl,hpx,hpy,rx,ry=>by
  obtain⟨c1,c2,rfl,r1,r2⟩:=rx;obtain⟨e1,e2,rfl,g1,g2⟩:=ry;have l1:=D.rep_len _ _ r1;have l2:=D.rep_len _ _ g1;rw [Ty.D7 hd] at l1 l2;have s1:e.agg=false->e.sz=1:=λq=>by
   rw [<- Ty.D7 hd x];exact D.sz_one (by rw [Ty.O4 hd,q])
  have p1:=I0 ht w px c1 c2 l1 s1 hpx;have p2:=I0 ht w py e1 e2 l2 s1 hpy;have pe:=he d hn w w1 w2 Z Z' x y c1 e1 r1 g1;have ih:=Jv he ht hd hn (w:=w) xs ys (px++c1) (py++e1) c2 e2 (k+1) (by simpa using hl) (by rw [List.length_append,l1,hpx,Nat.succ_mul]) (by rw [List.length_append,l2,hpy,Nat.succ_mul]) r2 g2;rw [List.append_assoc,List.append_assoc] at ih;rw [List.append_assoc] at p1 p2;rw [List.length_cons,List.range'_succ];simp only [Op.eqItems,Sem.run_bind,p1,p2,pe,Result.andThen_ok];cases hq:e.eqT x y<;>simp [Ty.eqL,hq,ih]
 | [],_ :: _,_,_,_,_,_,h,_,_,_,_ | _ :: _,[],_,_,_,_,_,h,_,_,_,_=>by simp at h
theorem Ks:∀ (n:Nat) (t:TypeId) (c:Ty),eqB P n t c=true->A9o P n t c
 | 0,_,_,h=>by simp [eqB] at h
 | n+1,t,c,h=>by
  intro d hd w w1 w2 Z Z' x y cx cy rx ry;obtain⟨d,rfl⟩:∃ e,d=e+1:=⟨d-1,by omega⟩;unfold eqB at h;split at h
  ·rename_i hu;exact(R3.bool (P:=P) (h:=n) x y hu).run (w:=w) (Z:=Z) (Z':=Z') (d:=d+1) (by omega) rx ry
  ·rename_i hu;exact(R3.int (P:=P) (h:=n) x y hu).run (w:=w) (Z:=Z) (Z':=Z') (d:=d+1) (by omega) rx ry
  ·rename_i hu;exact(R3.str (P:=P) (h:=n) x y hu).run (w:=w) (Z:=Z) (Z':=Z') (d:=d+1) (by omega) rx ry
  ·rename_i b fs hu;simp only [Bool.and_eq_true,Bool.not_eq_true'] at h;have hfs:P.fieldsOf t=fs:=by simp [Program.fieldsOf,hu]
   simp only [D3,Ty.agg,if_true];rw [run_equalIn_struct w d t cx.toArray cy.toArray (by rw [hfs];exact hu) h.1,hfs];have:=B23 (P:=P) (n:=n) (h:=eqB P n) (λt c=>Ks n t c) h.2 (d:=d) (by omega) (w:=w) (px:=[]) (py:=[]) rfl rfl rx ry;exact this
  ·rename_i m e m' et hu;simp only [Bool.and_eq_true] at h;obtain⟨⟨⟨⟨h1,h2⟩,h3⟩,h4⟩,h5⟩:=h;have h1:=Nat.eq_of_beq_eq_true h1;subst h1;obtain⟨i,hi⟩:=Option.isSome_iff_exists.1 h4;have ht:=F0 h2;have hc:P.cellsOf et=e.sz:=by
    have:=ht.1;rw [hi] at this;simp only [Program.cellsOf,hi];simpa using this
   simp only [D3,Ty.agg,if_true];rw [run_equalIn_array (P:=P) (w:=w) d cx.toArray cy.toArray hu hi,hc];obtain⟨q1,_,q3⟩:(List.map e.enc (show List e.T from x)).length=m∧_∧_:=rx;obtain⟨q4,_,q6⟩:(List.map e.enc (show List e.T from y)).length=m∧_∧_:=ry;rw [List.length_map] at q1 q4;have:=Jv (P:=P) (Ks n et e h5) ht h3 (d:=d) (by omega) (w:=w) x y [] [] cx cy 0 (by rw [q1,q4]) (by simp) (by simp) q3 q6;rw [List.nil_append,List.nil_append,q1] at this;rw [List.range_eq_range'];exact this
  ·cases h
end
section
variable {P:Program} {B:D5} {ops:Array Oper} {S:St typ} {d:Nat} {x y:Operand} {xt yt ty:TypeId} {pos:String} {af:Array Edge}
theorem OpJ.eqT {n:Nat} {c:Ty} {a b:c.T} {nt nt':EL} (hf:eqB P n xt c=true) (hn:Nat.ble n 10000=true) (hd:c.dat false=true) (hg:P.eqGuardType P.depth xt=false) (hag:c.agg=true) (neg:Bool) (hN:d<B.N) (hx:Opd x (.d (c.enc a)) nt) (hy:Opd y (.d (c.enc b)) nt') :
  OpJ P B ops ⟨some d,.binOp (if neg then .neq else .eql) xt x y yt,ty,pos,af,none⟩ { nt:=nt++nt',wt:=[(d,.d (.bool (if neg then !(c.eqT a b) else c.eqT a b)))] } :=
 OpJ.pure rfl rfl hN λenv ob s w σ Z sm hne=>by
  obtain⟨h1,h2⟩:=B4 hne;obtain⟨cx,e1,r1⟩:=P2 (hx B env ob s w σ Z sm h1);obtain⟨cy,e2,r2⟩:=P2 (hy B env ob s w σ Z sm h2);have:=Ks n xt c hf 10000 (Nat.le_of_ble_eq_true hn) w w w Z Z a b cx cy r1 r2;rw [Ty.O4 hd,hag] at e1 e2;rw [hag] at this;simp only [D3,if_true] at this e1 e2;have g:=λop=>run_eqGuard_agg (P:=P) w op xt x y cx.toArray cy.toArray hg;cases neg with
  | true=>exact⟨.bool (!(c.eqT a b)),by simp [execOp,e1,e2,binOp,Op.equal,Op.maxDepth,this,g],H3 _⟩
  | false=>exact⟨.bool (c.eqT a b),by simp [execOp,e1,e2,binOp,Op.equal,Op.maxDepth,this,g],H3 _⟩
end
section
variable {A:Alg}
def A9p (S:St A) (d:Nat) (op:BinOp) (x y:Operand):Option (Stp A) :=
 match S.op x,S.op y with
 | some tx,some ty=>match S.exact .str tx,S.exact .str ty with
  | some a,some b=>match op with
   | .eql=>some (S.leaf1 d (rdk x++rdk y) [] .bool (A.eq .str a b))
   | .neq=>some (S.leaf1 d (rdk x++rdk y) [] .bool (A.not (A.eq .str a b)))
   | .add=>some (.chk (A.fitS (A.cat a b)) [⟨.str,A.cat a b⟩] { nt:=rdk x++rdk y,wt:=[(d,.d .str S.nl)] })
   | _=>none
  | _,_=>none
 | _,_=>none
def A9q (P:Program) (S:St A) (d:Nat) (op:BinOp) (xt:TypeId) (x y:Operand):Option (Stp A) :=
 match V3 P 12 xt,S.op x,S.op y with
 | some c,some tx,some ty=>match S.asD tx c,S.asD ty c with
  | some a,some b=>bif c.agg&&c.dat false&&eqB P 12 xt c && !P.eqGuardType P.depth xt && !tx.isL && !ty.isL then match op with
   | .eql=>some (S.leaf1 d (rdk x++rdk y) [] .bool (A.eq c a b))
   | .neq=>some (S.leaf1 d (rdk x++rdk y) [] .bool (A.not (A.eq c a b)))
   | _=>none
   else none
  | _,_=>none
 | _,_,_=>none
def A0k (P:Program) (S:St A) (d:Nat) (t:TypeId) (x:Operand) (lo hi:Option Operand):Option (Stp A) :=
 match P.underlying t,S.op x with
 | some .string,some tx=>match S.exact .str tx with
  | some s=>match lo,hi with
   | none,none=>some (.pure [⟨.str,s⟩] { nt:=rdk x,wt:=[(d,.d .str S.nl)] })
   | some l,none=>match S.anyI l with
    | some ⟨k,a⟩=>some (.chk (A.leS k a s) [⟨.str,A.scutD k s a⟩] { nt:=rdk x++rdk l,wt:=[(d,.d .str S.nl)] })
    | none=>none
   | none,some h=>match S.anyI h with
    | some ⟨k,a⟩=>some (.chk (A.leS k a s) [⟨.str,A.scutT k s a⟩] { nt:=rdk x++rdk h,wt:=[(d,.d .str S.nl)] })
    | none=>none
   | some l,some h=>match S.anyI l,S.anyI h with
    | some ⟨k,a⟩,some ⟨k',b⟩=>some (.chk (A.and (A.leS k' b s) (A.leS k a (A.scutT k' s b))) [⟨.str,A.scutD k (A.scutT k' s b) a⟩] { nt:=rdk x++(rdk l++rdk h),wt:=[(d,.d .str S.nl)] })
    | _,_=>none
  | none=>none
 | _,_=>none
def Tj (P:Program) (S:St A) (d:Nat) (src dst:TypeId) (x:Operand):Option (Stp A) :=
 match P.underlying src,P.underlying dst,S.op x with
 | some (.slice e),some .string,some tx=>match P.underlying e,S.asD tx (.list (.int .u8)) with
  | some (.int .u8),some l=>some (S.leaf1 d (rdk x) [] .str (A.b2s l))
  | _,_=>none
 | some .string,some (.slice e),some tx=>match P.underlying e,S.exact .str tx with
  | some (.int .u8),some s=>some (.chk (A.fitS s) [⟨.list (.int .u8),A.s2b s⟩] { nt:=rdk x,wt:=[(d,.d (.list (.int .u8)) S.nl)] })
  | _,_=>none
 | _,_,_=>none
end
section
variable {P:Program} {B:D5} {ops:Array Oper} {S:St typ} {d:Nat} {x y:Operand} {xt yt ty t:TypeId} {pos:String} {af:Array Edge}
variable {s:Stp typ}
theorem A71 [Hid] {op:BinOp} (hN:d<B.N) (h:A9p S d op x y=some s):s.Ok P B ops ⟨some d,.binOp op xt x y yt,ty,pos,af,none⟩ S:=by
 unfold A9p at h;split at h
 ·rename_i tx ty' hx hy;split at h
  ·rename_i a b ha hb;have e1:=Q8 ha;have e2:=Q8 hb;split at h
   ·cases h;refine ok2 hx hy E5 λnt nt' hx hy => ?_;rw [e1] at hx;rw [e2] at hy;exact OpJ.eqlS hN hx hy
   ·cases h;refine ok2 hx hy E5 λnt nt' hx hy => ?_;rw [e1] at hx;rw [e2] at hy;exact OpJ.neqS hN hx hy
   ·cases h;intro hl;refine ok2 hx hy E5 λnt nt' hx hy => ?_;rw [e1] at hx;rw [e2] at hy;exact OpJ.catS (of_decide_eq_true hl) hN hx hy
   ·cases h
  ·cases h
 ·cases h
theorem A72 [Hid] {op:BinOp} (hN:d<B.N) (h:A9q P S d op xt x y=some s):s.Ok P B ops ⟨some d,.binOp op xt x y yt,ty,pos,af,none⟩ S:=by
 unfold A9q at h;split at h
 ·rename_i c tx ty' hc hx hy;split at h
  ·rename_i a b ha hb;cases hq:c.agg&&c.dat false&&eqB P 12 xt c && !P.eqGuardType P.depth xt && !tx.isL && !ty'.isL with
   | false=>rw [hq] at h;cases h
   | true =>
    rw [hq,cond_true] at h;simp only [Bool.and_eq_true,Bool.not_eq_true'] at hq;obtain⟨⟨⟨⟨⟨q1,q2⟩,q3⟩,q4⟩,q5⟩,q6⟩:=hq;have e1:=W9 ha q2;have e2:=W9 hb q2;split at h
    ·cases h;refine ok2 hx hy E5 λnt nt' hx hy => ?_;exact OpJ.eqT (neg:=false) q3 rfl q2 q4 q1 hN (Opd.co e1 hx) (Opd.co e2 hy)
    ·cases h;refine ok2 hx hy E5 λnt nt' hx hy => ?_;exact OpJ.eqT (neg:=true) q3 rfl q2 q4 q1 hN (Opd.co e1 hx) (Opd.co e2 hy)
    ·cases h
  ·cases h
 ·cases h
theorem A4e [Hid] {lo hi:Option Operand} (hN:d<B.N) (h:A0k P S d t x lo hi=some s):s.Ok P B ops ⟨some d,.slice t x lo hi none,ty,pos,af,none⟩ S:=by
 unfold A0k at h;split at h
 ·rename_i tx hu hx;split at h
  ·rename_i z hz;have e:=Q8 hz;have hx2:=(B6 hx).1;rw [e] at hx2;have hx3:=(B6 hx).2;rw [e] at hx3;have fin:∀ {zs:List UInt8} {l hh:Nat} {nl nh:EL} {kl kh:List Nat},
     (lo=none∧l=0∧nl=[]∨∃ o k n,lo=some o∧Opd o (.d (.int k n)) nl∧0<=n∧l=n.toNat)->(hi=none∧hh=List.length (show List UInt8 from z)∧nh=[]∨∃ o k n,hi=some o∧Opd o (.d (.int k n)) nh∧0<=n∧hh=n.toNat) ->
     l<=hh->hh<=List.length (show List UInt8 from z)->zs=List.drop l (List.take hh z)->rE S.e nl=rE' nl->rE S.e nh=rE' nh->B8 nl=kl->B8 nh=kh ->
     OkO P B ops ⟨some d,.slice t x lo hi none,ty,pos,af,none⟩ S [⟨.str,zs⟩] { nt:=rdk x++(kl++kh),wt:=[(d,.d .str S.nl)] }:=fun {zs l hh nl nh kl kh} h1 h2 h3 h4 h5 h6 h7 h8 h9 =>
    ⟨_,OpJ.cutStr hu h1 h2 h3 h4 h5 hN hx2,E4 hx3 (E4 h6 h7),rfl,rfl,by simp only [eOf,List.map,E5];rfl,rfl,by rw [D6,D6,C5,h8,h9],rfl,rfl⟩
   split at h
   ·cases h;have:=fin (zs:=z) (l:=0) (hh:=List.length (show List UInt8 from z)) (.inl ⟨rfl,rfl,rfl⟩) (.inl ⟨rfl,rfl,rfl⟩) (Nat.zero_le _) (Nat.le_refl _) (by rw [List.take_length];rfl) rfl rfl rfl rfl;simpa [B8,Stp.Ok] using this
   ·rename_i l;split at h
    ·rename_i k a hl;obtain⟨tx,e1,e2⟩:=E7 hl;cases h;intro hq;obtain⟨g1,g2⟩:=U2 hq;have:=fin (zs:=List.drop (Int.toNat a) z) (l:=Int.toNat a) (hh:=List.length (show List UInt8 from z)) (.inr ⟨l,k,a,rfl,e2 ▸ (B6 e1).1,g1,rfl⟩) (.inl ⟨rfl,rfl,rfl⟩) g2 (Nat.le_refl _) (by rw [List.take_length]) (B6 e1).2 rfl (C5 _ _) rfl;simpa [B8,Stp.Ok] using this
    ·cases h
   ·rename_i hh;split at h
    ·rename_i k a hl;obtain⟨tx,e1,e2⟩:=E7 hl;cases h;intro hq;obtain⟨g1,g2⟩:=U2 hq;have:=fin (zs:=List.take (Int.toNat a) z) (l:=0) (hh:=Int.toNat a) (.inl ⟨rfl,rfl,rfl⟩) (.inr ⟨hh,k,a,rfl,e2 ▸ (B6 e1).1,g1,rfl⟩) (Nat.zero_le _) g2 rfl rfl (B6 e1).2 rfl (C5 _ _);simpa [B8,Stp.Ok] using this
    ·cases h
   ·rename_i l hh;split at h
    ·rename_i k a k' b hl hh';obtain⟨tx,e1,e2⟩:=E7 hl;obtain⟨tx',e3,e4⟩:=E7 hh';cases h;intro hq;obtain⟨q1,q2⟩:=H8 hq;obtain⟨g1,g2⟩:=U2 q1;obtain⟨g3,g4⟩:=U2 q2;have g4:Int.toNat a<=(List.take (Int.toNat b) (show List UInt8 from z)).length:=g4;rw [List.length_take] at g4;exact fin (l:=Int.toNat a) (hh:=Int.toNat b) (.inr ⟨l,k,a,rfl,e2 ▸ (B6 e1).1,g3,rfl⟩) (.inr ⟨hh,k',b,rfl,e4 ▸ (B6 e3).1,g1,rfl⟩) (by omega) g2 rfl (B6 e1).2 (B6 e3).2 (C5 _ _) (C5 _ _)
    ·cases h
  ·cases h
 ·cases h
theorem Yr [Hid] {src dst:TypeId} (hN:d<B.N) (h:Tj P S d src dst x=some s):s.Ok P B ops ⟨some d,.convert src dst x,ty,pos,af,none⟩ S:=by
 unfold Tj at h;split at h
 ·rename_i e tx hs hd hx;split at h
  ·rename_i l he hl;cases h;refine ok1 hx E5 λnt hx => ?_;have hx:=Opd.co (W9 hl rfl) hx;exact OpJ.bytesStr (xs:=l) hs he hd hN hx
  ·cases h
 ·rename_i e tx hs hd hx;split at h
  ·rename_i s' he hz;cases h;intro hq;refine ok1 hx E5 λnt hx => ?_;rw [Q8 hz] at hx;exact OpJ.strBytes hs hd he (of_decide_eq_true hq) hN hx
  ·cases h
 ·cases h
end
end Go.Vc
namespace Go.Vc
open Go Go.Lib
theorem An {P:Program} (w:World) (base:Nat) (t u ty e:TypeId) (i:TypeInfo) (ht:P.underlying t=some (.slice e)) (hu:P.underlying u=some .string) (hi:P.info? e=some i) (hz:i.zero=some (.int .u8 0))
  (hsize:i.size=1) (hby:i.bytes=1)
  (v:Value) (n:Nat) (xs:List Value) (hown:w.ownsRow base e 1 v n xs) (s:ByteArray)
  (h63:n+s.size<=maxLen) (hbytes:n+s.size<=140737488355328) (hbase:base<=w.heap.size) :
  ∃ v' w',(Builtin.append_ #[t,u] ty #[v,.string s]).run P w = .ok v' w'∧w'.ownsRow base e 1 v' (n+s.size) (xs++strCells s)∧w.grownBy w' v.ownBlock ∧
   (v'.ownBlock=v.ownBlock∨v'.ownBlock=some w.heap.size):=by
 have hsmall:n+s.size<=9223372036854775807:=by simp only [maxLen] at h63;omega
 have hxl:xs.length=n:=by simpa using hown.1
 have hlen:(xs++strCells s).length=(n+s.size)*1:=by rw [List.length_append,hxl,strCells_length,Nat.mul_one]
 obtain⟨v',w',hr,h1,h2,h3⟩:=run_append_own_string w base t u ty e i ht hu hi hz hsize hby v n xs hown s h63 hbytes hbase;refine⟨v',w',hr,h1,h2,?_⟩;rcases hown.2 with ⟨rfl,rfl⟩ | ⟨g,cap,cur,rfl,hbg,hg,hnc,hcm,hcs,htake⟩
 ·by_cases hm:s.size=0
  ·exact .inl (by rw [h3.2 ⟨rfl,hm⟩])
  ·have hr2:=run_append_nil_string (P:=P) w t u ty e i (.int .u8 0) ht hu hi hz s (by omega) (by omega) (by rw [hby];omega);rw [hr2] at hr;cases hr;exact .inr rfl
 ·by_cases hroom:n+s.size<=cap
  ·have hcs':cur.size=cap:=by simpa using hcs
   have hr2:=run_append_room_string (P:=P) w t u ty e i ht hu hi hsize g n cap cur hg s hroom (by omega);rw [hr2] at hr;cases hr;exact .inl rfl
  ·have holds:∀ j u,xs[j]? = some u->w.cell? ((⟨g,0,none⟩:Addr).add j)=some u:=hown.cells (g:=g) rfl;have hr2:=run_append_grow_string (P:=P) w t u ty e i (.int .u8 0) ht hu hi hz ⟨g,0,none⟩ n cap xs (by rw [hsize];simpa using hxl) holds s (by omega) (by omega) (by rw [hby];exact growslice_fits (by omega) (by omega));rw [hr2] at hr;cases hr;exact .inr rfl
section
variable {P:Program} {B:D5} {ops:Array Oper} {d:Nat} {x y i:Operand} {ty:TypeId} {pos:String} {af:Array Edge} {nt nt' nl nh:List (Nat×V)}
theorem Jw (s:List UInt8):strCells ⟨s.toArray⟩=s.map λb=>Value.int .u8 b.toNat:=by simp [strCells]
theorem OpJ.appendStr {t u e:Nat} (hB:B.ok) (ht:P.underlying t=some (.slice e)) (hu:P.underlying u=some .string) (he:TyE P e 1 1) (hz8:∀ i,P.info? e=some i->i.zero=some (.int .u8 0)) {n nm:Nat} (hnm:1000<=nm) {es:List D} {s:List UInt8} {len:Nat} (hlen:len=(es++(J7 s).map (eI .u8)).length)
  (hb:(es++(J7 s).map (eI .u8)).length<=LIM) (hN:d<B.N) {l0:Nat} (hl0:l0=es.length) (hx:Opd x (.sref n 1 0 l0) nt) (hy:Opd y (.d (.str s)) nt') :
  OpJ P B ops ⟨some d,.call { callee:=.builtin .append,args:=#[x,y],argTypes:=#[t,u] },ty,pos,af,none⟩
   { nt:=nt++nt',no:=[(n,.row e 1 es)],nf:=[nm],wt:=[(d,.sref nm 1 0 len)],wo:=[(nm,some (.row e 1 (es++(J7 s).map (eI .u8)))),(n,none)] } :=
 OpJ.run rfl rfl hN rfl λenv ob a w σ Z sm hne=>by
  subst hl0;obtain⟨h1,h2⟩:=B4 hne.1;have hob:=hne.2.1 (n,.row e 1 es) (by simp);have hl:live ob n:=⟨_,hob⟩;have hfr:ob nm=none:=hne.2.2 nm (by simp);have hnn:nm≠n:=λh=>by subst h;exact hl.used hfr
  have hro:=sm.obj n _ hob;obtain⟨xs,hown,hrep,hblk⟩:=Ct (hx B env ob a w σ Z sm h1) hl hro;have hyv:=P5 (hy B env ob a w σ Z sm h2);obtain⟨ti,z,hi,hz,hs,hby,hzs⟩:=he.get;have hsz:(⟨s.toArray⟩:ByteArray).size=s.length:=by simp [ByteArray.size]
  have hl2:(es++(J7 s).map (eI .u8)).length=es.length+s.length:=by simp [J7]
  rw [hl2] at hb hlen;have hb':es.length+s.length<=4294967296:=hb;obtain⟨v',w',hr,hown',hgr,hat⟩:=An (P:=P) w 0 t u ty e ti ht hu hi (hz8 ti hi) hs hby (a.eval x) es.length xs hown ⟨s.toArray⟩ (by rw [hsz];simp only [maxLen];omega) (by rw [hsz];omega) (Nat.zero_le _);rw [hsz,Jw] at hown';have hall:D.repL Z w (es++(J7 s).map (eI .u8)) (xs++s.map λb=>Value.int .u8 b.toNat):=D.repL_append es _ xs _ hrep (Ti s);have sk:=sm.kill n;have hlv:∀ m,live (B9 ob n none) m->m≠n∧live ob m:=λm hm=>by
   rw [C1] at hm
   by_cases hmn:m=n
   ·rw [if_pos hmn] at hm;simp at hm
   ·rw [if_neg hmn] at hm;exact⟨hmn,hm⟩
  have s2:=sk.rowNew sm (Fx ob n) hB (nm:=nm) (by simp [B9,hnn,hfr]) hnm hgr
   (λm b hm hb e=>(hlv m hm).1 (sm.inj m n b (hlv m hm).2 hl hb (by rw [<- hblk,<- e])))
   (λb hb=>⟨n,hl,by rw [<- hblk,hb]⟩) hat
   (o:=.row e 1 (es++(J7 s).map (eI .u8))) λob' σ' m hσ=>by
    refine⟨he.pos,?_,v',_,by rw [hl2];exact hown',D.repL_ext m.ext _ _ hall,hσ.symm,λhn => ?_⟩
    ·intro q hq;rcases List.mem_append.1 hq with hq | hq
     ·exact hro.2.1 q hq
     ·obtain⟨k,_,rfl⟩:=List.mem_map.1 hq;rfl
    ·rw [hσ] at hn;rcases hown'.2 with ⟨_,h0⟩ | ⟨g,cap,cur,hv,_⟩
     ·exact List.eq_nil_of_length_eq_zero (by omega)
     ·rw [hv] at hn;simp [Value.ownBlock] at hn
  rw [Cr _ rfl];refine⟨v',w',_,Z,?_,s2,?_⟩
  ·simp only [execOp,resolve,invoke,builtin,Sem.run_bind,Sem.run_pure,Result.andThen_ok,List.map_toArray,List.map_cons,List.map_nil,hyv,hr]
  ·rw [hlen];exact J6 (e:=e) (xs:=xs++s.map λb=>Value.int .u8 b.toNat) (by rw [C1];simp) hown' (by simp [G3])
theorem OpJ.appendNStr {t u e:Nat} (hB:B.ok) (ht:P.underlying t=some (.slice e)) (hu:P.underlying u=some .string) (he:TyE P e 1 1) (hz8:∀ i,P.info? e=some i->i.zero=some (.int .u8 0)) {nm:Nat} (hnm:1000<=nm) {s:List UInt8} {len:Nat} (hlen:len=s.length)
  (hb:s.length<=LIM) (hN:d<B.N) (hx:Opd x .nils nt) (hy:Opd y (.d (.str s)) nt') :
  OpJ P B ops ⟨some d,.call { callee:=.builtin .append,args:=#[x,y],argTypes:=#[t,u] },ty,pos,af,none⟩
   { nt:=nt++nt',nf:=[nm],wt:=[(d,.sref nm 1 0 len)],wo:=[(nm,some (.row e 1 ((J7 s).map (eI .u8))))] } :=
 OpJ.run rfl rfl hN rfl λenv ob a w σ Z sm hne=>by
  obtain⟨h1,h2⟩:=B4 hne.1;have hfr:ob nm=none:=hne.2.2 nm (by simp);have hxv:=T9 (hx B env ob a w σ Z sm h1);have hyv:=P5 (hy B env ob a w σ Z sm h2);obtain⟨ti,z,hi,hz,hs,hby,hzs⟩:=he.get;have hsz:(⟨s.toArray⟩:ByteArray).size=s.length:=by simp [ByteArray.size]
  have hb':s.length<=4294967296:=hb;have hown:=World.ownsRow_nil w 0 e 1;obtain⟨v',w',hr,hown',hgr,hat⟩:=An (P:=P) w 0 t u ty e ti ht hu hi (hz8 ti hi) hs hby (.slice none 0 0) 0 [] hown ⟨s.toArray⟩ (by rw [hsz];simp only [maxLen];omega) (by rw [hsz];omega) (Nat.zero_le _);rw [hsz,Jw,Nat.zero_add,List.nil_append] at hown';have hl2:((J7 s).map (eI .u8)).length=s.length:=by simp [J7]
  have s2:=sm.rowNew0 hB (nm:=nm) hfr hnm hgr hat
   (o:=.row e 1 ((J7 s).map (eI .u8))) λob' σ' m hσ=>by
    refine⟨he.pos,?_,v',_,by rw [hl2];exact hown',Ti s,hσ.symm,λhn => ?_⟩
    ·intro q hq;obtain⟨k,_,rfl⟩:=List.mem_map.1 hq;rfl
    ·rw [hσ] at hn;rcases hown'.2 with ⟨_,h0⟩ | ⟨g,cap,cur,hv,_⟩
     ·exact List.eq_nil_of_length_eq_zero (by rw [hl2];omega)
     ·rw [hv] at hn;simp [Value.ownBlock] at hn
  rw [F1 _ rfl];refine⟨v',w',_,Z,?_,s2,?_⟩
  ·simp only [execOp,resolve,invoke,builtin,Sem.run_bind,Sem.run_pure,Result.andThen_ok,List.map_toArray,List.map_cons,List.map_nil,hxv,hyv,hr]
  ·rw [hlen];exact J6 (e:=e) (xs:=s.map λb=>Value.int .u8 b.toNat) (by rw [C1];simp) hown' (by simp [G3])
theorem OpJ.capN {t e:TypeId} (hu:P.underlying t=some (.slice e)) (hN:d<B.N) (hx:Opd x .nils nt) :
  OpJ P B ops ⟨some d,.call { callee:=.builtin .cap,args:=#[x],argTypes:=#[t] },ty,pos,af,none⟩ { nt,wt:=[(d,.d (.int .i64 0))] } :=
 OpJ.pure rfl rfl hN λenv ob a w σ Z sm hne=>by
  have hv:=T9 (hx B env ob a w σ Z sm hne);exact⟨.int .i64 0,by simp [execOp,resolve,invoke,builtin,hv,Builtin.cap_,run_underlying hu,goInt],L8 _ _⟩
theorem OpJ.cutN {t e:TypeId} {sz:Nat} {ag:Bool} (hu:P.underlying t=some (.slice e)) (ht:TyS P e sz ag) {lo hi:Option Operand} (hlo:lo=none∧nl=[]∨∃ o k,lo=some o∧Opd o (.d (.int k 0)) nl) (hhi:hi=none∧nh=[]∨∃ o k,hi=some o∧Opd o (.d (.int k 0)) nh)
  (hN:d<B.N) (hx:Opd x .nils nt):OpJ P B ops ⟨some d,.slice t x lo hi none,ty,pos,af,none⟩ { nt:=nt++(nl++nh),wt:=[(d,.nils)] } :=
 OpJ.pure rfl rfl hN λenv ob a w σ Z sm hne=>by
  obtain⟨g1,g23⟩:=B4 hne;obtain⟨g2,g3⟩:=B4 g23;have hv:=T9 (hx B env ob a w σ Z sm g1);have hr:=Rm (P:=P) w t e hu ht none 0 0 (Nat.le_refl _) (lo.map a.eval) (hi.map a.eval) 0 0
   (by
    rcases hlo with ⟨rfl,_⟩ | ⟨o,k,rfl,ho⟩
    ·exact .inl ⟨rfl,rfl⟩
    ·exact .inr ⟨k,0,by simp [E6 (ho B env ob a w σ Z sm g2)],Int.le_refl _,rfl⟩)
   (by
    rcases hhi with ⟨rfl,_⟩ | ⟨o,k,rfl,ho⟩
    ·exact .inl ⟨rfl,rfl⟩
    ·exact .inr ⟨k,0,by simp [E6 (ho B env ob a w σ Z sm g3)],Int.le_refl _,rfl⟩)
   (Nat.le_refl _) (Nat.le_refl _)
  refine⟨.slice none 0 0,by simp only [execOp,hv,Sem.run_bind,Option.map_none,hr,Result.andThen_ok];rfl,?_⟩;exact Opd.nils B env ob a w σ Z sm (λ_ h=>by cases h)
end
section
variable {A:Alg}
def Nq (P:Program) (S:St A) (d:Nat) (t:TypeId) (m:Nat) (parts:List (Nat×Operand)):Option (Stp A) :=
 match P.underlying t with
 | some (.slice e)=>match V3 P 12 e with
  | some c=>bif c.dat false&&tyB P e c.sz c.agg&&zB P e (.d (c.enc c.zero))&&Nat.blt 0 c.sz&&Nat.ble (m*c.sz) 16777216&&Nat.ble 1000 S.nx then
   (V9 S c (List.replicate m (A.zero c)) parts).map λr => .pure [⟨.list c,A.lit c r.1⟩] { nt:=r.2,nf:=[S.nx],wt:=[(d,.sref S.nx c S.nl)],wo:=[(S.nx,some (.row e c S.nl))] } else none
  | none=>none
 | _=>none
def zOp (S:St A):Option Operand->Bool
 | none=>true
 | some o=>match S.op o with
  | some (.ki _ n) => @BEq.beq Int _ n 0
  | _=>false
def B3s:Option Operand->List Nat
 | none=>[]
 | some o=>rdk o
def A0l (P:Program) (S:St A) (d:Nat) (t:TypeId) (x:Operand) (lo hi:Option Operand):Option (Stp A) :=
 match P.underlying t,S.op x with
 | some (.slice e),some .nils=>match V3 P 12 e with
  | some c=>bif tyB P e c.sz c.agg&&zOp S lo&&zOp S hi then some (.pure [] { nt:=rdk x++(B3s lo++B3s hi),wt:=[(d,.nils)] }) else none
  | none=>none
 | some (.slice e),some (.sref n c j)=>match A1 S.O n,zOp S lo,hi with
  | some (some (.row e' c' i)),true,some h=>match S.anyI h with
   | some ⟨k,a⟩=>bif tyB P e c.sz c.agg&&c.dat false&&decide (c'=c) then
     some (.chk (bif Nat.beq i j then A.leL c k a (S.lv (.list c) i) else A.and (A.sameLen c (S.lv (.list c) j) (S.lv (.list c) i)) (A.leL c k a (S.lv (.list c) i))) [⟨.list c,A.cutT c k (S.lv (.list c) i) a⟩] { nt:=rdk x++(B3s lo++rdk h),no:=[n],wt:=[(d,.sref n c S.nl)],wo:=[(n,some (.row e' c S.nl))] })
    else none
   | none=>none
  | _,_,_=>none
 | _,_=>none
def u8B (P:Program) (e:TypeId):Bool:=match P.info? e with
 | some i=>(match i.zero with | some (.int .u8 0)=>true | _=>false)
 | none=>false
def A0m (P:Program) (S:St A) (d:Nat) (t u:TypeId) (x y:Operand):Option (Stp A) :=
 match P.underlying t,P.underlying u,S.op x,S.op y with
 | some (.slice e),some .string,some tx,some ty=>match S.exact .str ty with
  | some s=>bif Bl P e 1 1&&u8B P e&&Nat.ble 1000 S.nx then
    match tx with
    | .sref n c j=>match A1 S.O n with
     | some (some (.row e' c2 i))=>bif Nat.beq e' e&&decide (c = .int .u8)&&decide (c2 = .int .u8)&&Nat.beq i j then
       let l:=A.app (.int .u8) (S.lv (.list (.int .u8)) i) (A.s2b s)
       some (.chk (A.fitL (.int .u8) l) [⟨.list (.int .u8),l⟩] { nt:=rdk x++rdk y,no:=[n],nf:=[S.nx],wt:=[(d,.sref S.nx (.int .u8) S.nl)],wo:=[(S.nx,some (.row e (.int .u8) S.nl)),(n,none)] })
      else none
     | _=>none
    | .nils=>some (.chk (A.fitS s) [⟨.list (.int .u8),A.s2b s⟩] { nt:=rdk x++rdk y,nf:=[S.nx],wt:=[(d,.sref S.nx (.int .u8) S.nl)],wo:=[(S.nx,some (.row e (.int .u8) S.nl))] })
    | _=>none
   else none
  | none=>none
 | _,_,_,_=>none
def A9r (P:Program) (S:St A) (d:Nat) (t:TypeId) (x:Operand):Option (Stp A) :=
 match P.underlying t,S.op x with
 | some (.slice _),some .nils=>some (.pure [] { nt:=rdk x,wt:=[(d,.ki .i64 0)] })
 | _,_=>none
end
section
variable {P:Program} {B:D5} {ops:Array Oper} {S:St typ} {d:Nat} {x y:Operand} {ty t:TypeId} {pos:String} {af:Array Edge}
variable {lo:Option Operand} {s:Stp typ}
theorem Ve [Hid] {m:Nat} {parts:List (Nat×Operand)} (hB:B.ok) (hN:d<B.N) (hS:S.ok) (hf:A1 S.O S.nx=none) (h:Nq P S d t m parts=some s):s.Ok P B ops ⟨some d,.buildSlice t m parts.toArray,ty,pos,af,none⟩ S:=by
 unfold Nq at h;split at h
 ·rename_i e hu;split at h
  ·rename_i c hc;cases hb:c.dat false&&tyB P e c.sz c.agg&&zB P e (.d (c.enc c.zero))&&Nat.blt 0 c.sz&&Nat.ble (m*c.sz) 16777216&&Nat.ble 1000 S.nx with
   | false=>rw [hb] at h;cases h
   | true =>
    rw [hb,cond_true] at h;simp only [Bool.and_eq_true] at hb;obtain⟨hb,hb1000⟩:=hb;cases hr:V9 S c (List.replicate m (typ.zero c)) parts with
    | none=>rw [hr] at h;cases h
    | some r =>
     rw [hr] at h;cases h;have hd:=hb.1.1.1.1;obtain⟨vs,nt,k1,k2,k3,k4,k5,k6,k7⟩:=Eb hS hd (m:=m) (r:=r.1) (nt':=r.2) (by simp) hr;rw [<- Hn] at k4 k5;rw [<- Hm] at k5;exact⟨_,OpJ.buildSliceR hu (F0 hb.1.1.1.2) (Dc hb.1.1.2) (Ty.D7 hd _) (TV.C2 hb.1.2) (Nat.le_of_ble_eq_true hb.2) hB (Nat.le_of_ble_eq_true hb1000) (len:=List.length (show List c.T from r.1)) k6 k1 k4 (es:=r.1.map c.enc) k5 (by rw [List.length_map];exact k6) (Kr hd _) k7 hN,k2,rfl,rF1 hf,
      by simp only [eOf,List.map,T2],by simp only [oOf,List.map,Option.map,P0],k3,rfl,rfl⟩
  ·cases h
 ·cases h
theorem Ys [Hid] (h:zOp S lo=true):∃ nl,(lo=none∧nl=[]∨∃ o k,lo=some o∧Opd o (.d (.int k 0)) nl)∧rE S.e nl=rE' nl∧B8 nl=B3s lo:=by
 cases lo with
 | none=>exact⟨[],.inl ⟨rfl,rfl⟩,rfl,rfl⟩
 | some o =>
  unfold zOp at h;split at h
  ·rename_i o' e;cases e
  ·rename_i o' e;cases e;split at h
   ·rename_i k n hn;have h0:=eq_of_beq h;subst h0;exact⟨_,.inr ⟨o,k,rfl,(B6 hn).1⟩,(B6 hn).2,C5 _ _⟩
   ·cases h
theorem A4f [Hid] {hi:Option Operand} (hN:d<B.N) (hS:S.ok) (h:A0l P S d t x lo hi=some s):s.Ok P B ops ⟨some d,.slice t x lo hi none,ty,pos,af,none⟩ S:=by
 unfold A0l at h;split at h
 ·rename_i e hu hx;split at h
  ·rename_i c hc;cases hb:tyB P e c.sz c.agg&&zOp S lo&&zOp S hi with
   | false=>rw [hb] at h;cases h
   | true =>
    rw [hb,cond_true] at h;simp only [Bool.and_eq_true] at hb;cases h;obtain⟨nl,l1,l2,l3⟩:=Ys hb.1.2;obtain⟨nh,g1,g2,g3⟩:=Ys hb.2;exact⟨_,OpJ.cutN hu (F0 hb.1.1) l1 g1 hN (B6 hx).1,E4 (B6 hx).2 (E4 l2 g2),rfl,rfl,rfl,rfl,by rw [D6,D6,C5,l3,g3],rfl,rfl⟩
  ·cases h
 ·rename_i e n c j hu hx;split at h
  ·rename_i e' c' i hh hn hz;split at h
   ·rename_i k a ha;cases hb:tyB P e c.sz c.agg&&c.dat false&&decide (c'=c) with
    | false=>rw [hb] at h;cases h
    | true =>
     rw [hb,cond_true] at h;simp only [Bool.and_eq_true,decide_eq_true_eq] at hb;obtain⟨⟨b1,b2⟩,rfl⟩:=hb;cases h;intro hq;have hq2:leT a (List.length (S.lv (.list c') i))=true∧List.length (S.lv (.list c') j)=List.length (S.lv (.list c') i):=by
      cases hij:Nat.beq i j with
      | true =>
       rw [hij] at hq;have:=Nat.eq_of_beq_eq_true hij;subst this;exact⟨hq,rfl⟩
      | false =>
       rw [hij] at hq;obtain⟨h1,h2⟩:=H8 hq;exact⟨h2,of_decide_eq_true h1⟩
     obtain⟨q1,q2⟩:=U2 hq2.1;have q3:Int.toNat a<=List.length (S.lv (.list c') j):=by rw [hq2.2];exact q2
     obtain⟨tx,e1,e2⟩:=E7 ha;obtain⟨nl,l1,l2,l3⟩:=Ys hz;have hlo:(lo=none∧0=0∧nl=[])∨∃ o k n,lo=some o∧Opd o (.d (.int k n)) nl∧0<=n∧0=n.toNat:=by
      rcases l1 with ⟨p,q⟩ | ⟨o,k,p,q⟩
      ·exact .inl ⟨p,rfl,q⟩
      ·exact .inr ⟨o,k,0,p,q,Int.le_refl _,rfl⟩
     have len:(List.map c'.enc (S.lv (.list c') i)).length=List.length (S.lv (.list c') i):=List.length_map ..;have lt:(List.take (Int.toNat a) (S.lv (.list c') i)).length=Int.toNat a:=by rw [List.length_take];exact Nat.min_eq_left q2
     refine⟨_,OpJ.shrS (k:=Int.toNat a) (es:=List.map c'.enc (S.lv (.list c') i)) (es':=List.map c'.enc (List.take (Int.toNat a) (S.lv (.list c') i))) (e:=e') (sz:=c'.sz) (OpJ.cutS hu (F0 b1) (obj:=.row e' c'.sz (List.map c'.enc (S.lv (.list c') i))) (l:=0) (h:=Int.toNat a) (off':=0) (len':=Int.toNat a) hlo (.inr ⟨hh,k,a,rfl,e2 ▸ (B6 e1).1,q1,rfl⟩) (Nat.zero_le _) q3 rfl (by omega) hN (B6 hx).1) (by rw [len];exact q2) (List.map_take ..),E4 (B6 hx).2 (E4 l2 (e2 ▸ (B6 e1).2)),?_,rfl,?_,?_,by rw [D6,D6,C5,C5,l3],rfl,rfl⟩
     ·simp only [rO,rO',F4,hn,Option.map_some];rfl
     ·simp only [eOf,List.map,T2];rw [show List.length (List.take (Int.toNat a) (S.lv (.list c') i))=Int.toNat a from lt]
     ·simp only [oOf,List.map,Option.map,P0]
   ·cases h
  ·cases h
 ·cases h
theorem A73 {e:TypeId} (h:u8B P e=true):∀ i,P.info? e=some i->i.zero=some (.int .u8 0):=by
 intro i hi;unfold u8B at h;rw [hi] at h;simp only at h;split at h
 ·assumption
 ·cases h
theorem A4g [Hid] {u:TypeId} (hB:B.ok) (hN:d<B.N) (hS:S.ok) (hf:A1 S.O S.nx=none) (h:A0m P S d t u x y=some s):s.Ok P B ops ⟨some d,.call { callee:=.builtin .append,args:=#[x,y],argTypes:=#[t,u] },ty,pos,af,none⟩ S:=by
 unfold A0m at h;split at h
 ·rename_i e tx ty' ht hu hx hy;split at h
  ·rename_i s' hs';cases hb:Bl P e 1 1&&u8B P e&&Nat.ble 1000 S.nx with
   | false=>rw [hb] at h;cases h
   | true =>
    rw [hb,cond_true] at h;simp only [Bool.and_eq_true] at hb;have hy2:=(B6 hy).1;rw [Q8 hs'] at hy2;have hy3:=(B6 hy).2;rw [Q8 hs'] at hy3;split at h
    ·rename_i n c j;split at h
     ·rename_i e' c2 i hn;cases hq:Nat.beq e' e&&decide (c = .int .u8)&&decide (c2 = .int .u8)&&Nat.beq i j with
      | false=>rw [hq] at h;cases h
      | true =>
       rw [hq,cond_true] at h;simp only [Bool.and_eq_true,decide_eq_true_eq] at hq;obtain⟨⟨⟨q1,rfl⟩,rfl⟩,q2⟩:=hq;have q1:=Nat.eq_of_beq_eq_true q1;subst q1;have q2:=Nat.eq_of_beq_eq_true q2;subst q2;cases h;intro hl;have hm:List.map (Ty.int .u8).enc (List.append (S.lv (.list (.int .u8)) i) (J7 s'))=List.map (Ty.int .u8).enc (S.lv (.list (.int .u8)) i)++(J7 s').map (eI .u8):=List.map_append ..;have hlen:(List.append (S.lv (.list (.int .u8)) i) (J7 s')).length=(List.map (Ty.int .u8).enc (S.lv (.list (.int .u8)) i)++(J7 s').map (eI .u8)).length:=by rw [<- hm,List.length_map]
       refine⟨_,OpJ.appendStr hB ht hu (W4 hb.1.1) (A73 hb.1.2) (Nat.le_of_ble_eq_true hb.2) (n:=n) (es:=List.map (Ty.int .u8).enc (S.lv (.list (.int .u8)) i)) hlen (by rw [<- hlen];exact of_decide_eq_true hl) hN (List.length_map ..).symm (B6 hx).1 hy2,E4 (B6 hx).2 hy3,?_,rF1 hf,?_,?_,by rw [D6,C5,C5],rfl,rfl⟩
       ·simp only [rO,rO',F4,hn,Option.map_some];rfl
       ·simp only [eOf,List.map,T2];rfl
       ·simp only [oOf,List.map,Option.map,P0];rw [<- hm];rfl
     ·cases h
    ·cases h;intro hl;refine⟨_,OpJ.appendNStr hB ht hu (W4 hb.1.1) (A73 hb.1.2) (Nat.le_of_ble_eq_true hb.2) (len:=List.length (J7 s')) (by simp [J7]) (of_decide_eq_true hl) hN (B6 hx).1 hy2,E4 (B6 hx).2 hy3,rfl,rF1 hf,?_,?_,by rw [D6,C5,C5],rfl,rfl⟩
     ·simp only [eOf,List.map,T2];rfl
     ·simp only [oOf,List.map,Option.map,P0];rfl
    ·cases h
  ·cases h
 ·cases h
theorem A74 [Hid] (hN:d<B.N) (h:A9r P S d t x=some s):s.Ok P B ops ⟨some d,.call { callee:=.builtin .cap,args:=#[x],argTypes:=#[t] },ty,pos,af,none⟩ S:=by
 unfold A9r at h;split at h
 ·rename_i e hu hx;cases h;exact ok1 hx rfl λnt hx=>OpJ.capN hu hN hx
 ·cases h
end
end Go.Vc
namespace Go.Vc
open Go
variable {P:Program} {B:D5} {ops:Array Oper}
section
variable {d:Nat} {x y:Operand} {ty:TypeId} {pos:String} {af:Array Edge} {nt nt':List (Nat×V)}
end
section
variable {d:Nat} {x y:Operand} {ty:TypeId} {pos:String} {af:Array Edge} {nt nt':List (Nat×V)}
theorem B24 {env:Env} {ob:Obs} {a:Act} {w:World} {σ:Nat->Option Nat} {Z:Nat->Prop} (sm:Sim B env ob a w σ Z) {nm e sz so sl k:Nat} {es:List D} (hob:ob nm=some (some (.row e sz es))) {v:Value} (hr:D0 ob σ Z w v (.sref nm sz so sl)) (hk0:0<k) (hks:k<=sl) (hk:so+k<=es.length) :
  ∃ sa sc cs,v = .slice (some sa) sl sc∧D.repL Z w ((es.drop so).take k) cs∧cs.length=k*sz∧(∀ j u,cs[j]? = some u->w.cell? (sa.add j)=some u)∧(∀ u∈cs,u.oneCell'=true):=by
 have hl:live ob nm:=⟨_,hob⟩;obtain⟨ad,c,hv,hc1,hc2,hd⟩:=O9 hr hl;have hro:=sm.obj nm _ hob;rcases hd with ⟨k1,_,_,k4⟩ | ⟨b,e',k1,k2,_⟩
 ·omega
 ·rcases k2 with k2 | k2
  ·omega
  ·have hre:=D.repE_take _ b (0+so*sz) k (D.repE_drop _ b 0 so (Up hro k1));rw [Nat.zero_add] at hre;have hsz:∀ q∈(es.drop so).take k,q.sz=sz:=λq hq=>hro.2.1 q (List.mem_of_mem_drop (List.mem_of_mem_take hq));obtain⟨cs,g1,g2⟩:=D.repL_of_repE _ b _ hre hsz;have gl:=D.repL_len _ cs g1;rw [D.szL_all _ hsz,List.length_take,List.length_drop,Nat.min_eq_left (by omega)] at gl;exact⟨_,c,cs,by rw [hv,k2],g1,gl,λj u hj=>by rw [K6];exact g2 j u hj,D.repL_one _ cs g1⟩
end
end Go.Vc
