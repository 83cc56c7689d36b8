/- Part of the proof that 'TopResolves' holds of every input: no condition. -/
import Derived.Test.YtalojkjpjdcibaaGreatDoorXAE
import Derived.Test.YtalojkjpjdcibaaGreatDoorXAC
import Derived.Laws.BytesArg
import Derived.Laws.Strings
import Derived.Laws.IdiomStrings
import Derived.ChangeKeysEq
import Derived.Lib.AppendStr
import Derived.Lib.AppendZerosOnto
import Derived.Lib.Overlaps
namespace Go.Vc
open Go

def fldB (P:Program) (s:TypeId) (f:Nat):Option Nat :=
  match P.underlying s with
  | some (.struct fs)=>match fs[f]? with
    | some fl=>match P.info? fl.type,P.underlying fl.type with
      | some i,some _=>bif Nat.blt 0 i.size then some fl.offset else none
      | _,_=>none
    | none=>none
  | _=>none
theorem A2y {P:Program} {s f o:Nat} (h:fldB P s f=some o):∃ fs fl n ag,P.underlying s=some (.struct fs)∧fs[f]? = some fl∧fl.offset=o∧TyS P fl.type n ag∧n≠0:=by
  unfold fldB at h;split at h
  · rename_i fs hs;split at h
    · rename_i fl hf;split at h
      · rename_i i d hi hd;cases hb:Nat.blt 0 i.size with
        | false=>rw [hb] at h;cases h
        | true =>
          rw [hb] at h;cases h;exact⟨fs,fl,i.size,descAgg d,hs,hf,rfl,⟨by rw [hi];rfl,by rw [hd];rfl⟩,by have:=TV.A7 hb;omega⟩
      · cases h
    · cases h
  · cases h

section
variable {A:Alg}
def opField (P:Program) (S:St A) (d:Nat) (s:TypeId) (x:Operand) (f:Nat):Option (Stp A) :=
  match fldB P s f,S.op x with
  | some o,some (.ptr n off p)=>match look S.O n with
    | some (some _)=>some (.pure [] { nt:=rdk x,no:=[n],wt:=[(d,.ptr n (off+o) (p++[f]))] })
    | _=>none
  | some o,some (.eptr n sz k i off p)=>match look S.O n with
    | some (some _)=>some (.pure [] { nt:=rdk x,no:=[n],wt:=[(d,.eptr n sz k i (off+o) (p++[f]))] })
    | _=>none
  | some o,some (.dptr (.st b) i) =>
    bif Nat.blt f b.nf&&Nat.beq (b.foff f) o&&b.dat true then some (.pure [⟨b.fty f,A.fld b (S.lv (.st b) i) f⟩] { nt:=rdk x,wt:=[(d,.dptr (b.fty f) S.nl)] }) else none
  | _,_=>none
def opNil (S:St A) (d:Nat) (x:Operand):Option (Stp A) :=
  match S.op x with
  | some (.ptr n off p)=>ob n (.ptr n off p)
  | some (.eptr n sz k i off p)=>ob n (.eptr n sz k i off p)
  | some (.aptr n off p k i sz)=>ob n (.aptr n off p k i sz)
  | some (.dptr c i)=>some (.pure [] { nt:=rdk x,wt:=[(d,.dptr c i)] })
  | _=>none
where ob (n:Nat) (r:TV):Option (Stp A):=match look S.O n with
    | some (some _)=>some (.pure [] { nt:=rdk x,no:=[n],wt:=[(d,r)] })
    | _=>none
def St.ix (S:St A) (x:Operand):Option ((k:IntKind)×A.I (.int k)×Nat×List (Lf A)) :=
  match S.op x with
  | some (.d (.int k) i)=>some ⟨k,S.lv (.int k) i,i,[]⟩
  | some (.ki k n)=>some ⟨k,A.ki k n,S.nl,[⟨.int k,A.ki k n⟩]⟩
  | _=>none
def opIndex (P:Program) (S:St A) (d:Nat) (t:TypeId) (x y:Operand):Option (Stp A) :=
  match P.underlying t,S.op x with
  | some (.slice e),some (.d (.list c) j) =>
    bif tyB P e c.sz c.agg&&c.dat false then match S.anyI y with
      | some ⟨k,a⟩=>some (.bind c (A.idx c k (S.lv (.list c) j) a) (fun q=>[⟨c,q⟩]) { nt:=rdk x++rdk y,wt:=[(d,.dptr c S.nl)] })
      | none=>none
    else none
  | some (.slice e),some (.sref n c j)=>match look S.O n with
    | some (some (.row _ c' i)) =>
      if h:c'=c then bif tyB P e c.sz c.agg then match S.ix y with
        | some ⟨k,a,ia,lf⟩ =>
          let m:=A.idx c k (S.lv (.list c) i) a
          some (.bind c (bif Nat.beq i j then m else A.chk c (A.sameLen c (S.lv (.list c) i) (S.lv (.list c) j)) m) (fun _=>lf) { nt:=rdk x++rdk y,no:=[n],wt:=[(d,.eptr n c.sz k ia 0 [])] })
        | none=>none
      else none else none
    | _=>none
  | some (.array m e),some (.dptr (.arr m' c) j) =>
    bif Nat.beq m m'&&tyB P e c.sz c.agg&&c.dat false then match S.anyI y with
      | some ⟨k,a⟩=>some (.bind c (A.aidx m' c k (S.lv (.arr m' c) j) a) (fun q=>[⟨c,q⟩]) { nt:=rdk x++rdk y,wt:=[(d,.dptr c S.nl)] })
      | none=>none
    else none
  | some (.array m e),some (.ptr n off p)=>match look S.O n with
    | some (some _)=>match P.info? e,P.underlying e,S.ix y with
      | some ie,some de,some ⟨k,a,ia,lf⟩=>match S.op y with
        | some (.ki _ z)=>bif decide (0≤z)&&decide (z<(m:Int)) then some (.pure lf { nt:=rdk x++rdk y,no:=[n],wt:=[(d,.aptr n off p k ia ie.size)] }) else none
        | _=>some (.chk (A.ltc k a m) lf { nt:=rdk x++rdk y,no:=[n],wt:=[(d,.aptr n off p k ia ie.size)] })
      | _,_,_=>none
    | _=>none
  | _,_=>none
inductive Rv (A:Alg)
  | tv (x:TV)
  | lf (c:Ty) (x:A.I c)
def getP (S:St A):List Nat→TV→Option (Nat×Rv A)
  | [],x=>some (0,.tv x)
  | i :: p,.st fs=>match fs.nth i,fs.off? i with
    | some f,some o=>(getP S p f).map fun r=>(o+r.1,r.2)
    | _,_=>none
  | i :: p,.d c j=>bif c.dat false then (c.poff (i :: p)).map fun o=>(o,.lf (c.pty (i :: p)) (pget A c (S.lv c j) (i :: p))) else none
  | _,_=>none
def opLoad (P:Program) (S:St A) (d:Nat) (t:TypeId) (x:Operand):Option (Stp A) :=
  match S.op x with
  | some (.dptr c i)=>bif tyB P t c.sz c.agg&&c.dat false then some (.pure [] { nt:=rdk x,wt:=[(d,.d c i)] }) else none
  | some (.ptr n off p)=>match look S.O n with
    | some (some (.box _ y))=>bif y.isL then none else match getP S p y with
      | some (o,.tv z)=>match z.sz? with
        | some m=>bif Nat.beq o off&&tyB P t m z.agg && !z.isL then some (.pure [] { nt:=rdk x,no:=[n],wt:=[(d,z)] }) else none
        | none=>none
      | some (o,.lf c z)=>bif Nat.beq o off&&tyB P t c.sz c.agg then some (.pure [⟨c,z⟩] { nt:=rdk x,no:=[n],wt:=[(d,.d c S.nl)] }) else none
      | none=>none
    | _=>none
  | some (.eptr n sz k i off p)=>match look S.O n with
    | some (some (.row _ c j))=>bif Nat.beq sz c.sz&&c.dat false&&tyB P t (c.pty p).sz (c.pty p).agg&&(match c.poff p with | some o=>Nat.beq o off | none=>false) then
        some (.bind c (A.idx c k (S.lv (.list c) j) (S.lv (.int k) i)) (fun q=>[⟨c.pty p,pget A c q p⟩]) { nt:=rdk x,no:=[n],wt:=[(d,.d (c.pty p) S.nl)] })
      else none
    | _=>none
  | some (.aptr n off p k i sz)=>match look S.O n with
    | some (some (.box _ y))=>bif y.isL then none else match getP S p y with
      | some (o,.tv (.d (.arr m c) j))=>bif Nat.beq o off&&Nat.beq sz c.sz&&c.dat false&&tyB P t c.sz c.agg then
          some (.bind c (A.aidx m c k (S.lv (.arr m c) j) (S.lv (.int k) i)) (fun q=>[⟨c,q⟩]) { nt:=rdk x,no:=[n],wt:=[(d,.d c S.nl)] }) else none
      | some (o,.lf (.arr m c) z)=>bif Nat.beq o off&&Nat.beq sz c.sz&&c.dat false&&tyB P t c.sz c.agg then
          some (.bind c (A.aidx m c k z (S.lv (.int k) i)) (fun q=>[⟨c,q⟩]) { nt:=rdk x,no:=[n],wt:=[(d,.d c S.nl)] }) else none
      | _=>none
    | _=>none
  | _=>none
def expT (b:Ty):Nat→Nat→Nat→TV
  | _,_,0 => .nil
  | i,k,n+1 => .cons (.d (b.fty k) i) (expT b (i+1) (k+1) n)
def expL (A:Alg) (b:Ty) (x:A.I (.st b)):Nat→Nat→List (Lf A)
  | _,0=>[]
  | k,n+1=>⟨b.fty k,A.fld b x k⟩ :: expL A b x (k+1) n
def setEx (S:St A) (i:Nat) (p:List Nat):(c:Ty)→A.I c→TV→Option (Nat×TV×List (Lf A))
  | .st b,x,y=>match p,(expT b S.nl 0 b.nf).setN i y,y.sz? with
    | [],some gs,some m=>bif Nat.blt i b.nf&&Nat.beq m (b.fty i).sz && !y.isL&&y.lt S.nl then some (b.foff i,.st gs,expL A b x 0 b.nf) else none
    | _,_,_=>none
  | _,_,_=>none
def setPt (S:St A):List Nat→TV→TV→Option (Nat×TV×List (Lf A))
  | [],_,y=>some (0,y,[])
  | i :: p,.st fs,y=>match fs.nth i,fs.off? i with
    | some f,some o=>(setPt S p f y).bind fun r=>match f.sz?,r.2.1.sz?,fs.setN i r.2.1 with
      | some a,some b,some gs=>bif Nat.beq a b && !f.isL && !r.2.1.isL then some (o+r.1,.st gs,r.2.2) else none
      | _,_,_=>none
    | _,_=>none
  | i :: p,.d c j,y=>bif c.dat false then match c.poff (i :: p),S.asD y (c.pty (i :: p)) with
      | some o,some z=>some (o,.d c S.nl,[⟨c,pset A c (S.lv c j) (i :: p) z⟩])
      | some _,none=>setEx S i p c (S.lv c j) y
      | _,_=>none
    else none
  | _,_,_=>none
def opStore (P:Program) (S:St A) (t:TypeId) (x y:Operand):Option (Stp A) :=
  match S.op x,S.op y with
  | some (.ptr n off p),some ty=>match look S.O n with
    | some (some (.box bt c))=>match setPt S p c ty,c.sz?,ty.sz? with
      | some (o,c',lf),some a,some m=>match c'.sz? with
        | some b=>bif Nat.beq o off&&Nat.beq a b&&tyB P t m ty.agg && !ty.isL && !c.isL && !c'.isL then some (.pure lf { nt:=rdk x++rdk y,no:=[n],wo:=[(n,some (.box bt c'))] }) else none
        | none=>none
      | _,_,_=>none
    | _=>none
  | some (.eptr n sz k i off p),some ty=>match look S.O n with
    | some (some (.row e c j))=>bif Nat.beq sz c.sz&&c.dat false&&tyB P t (c.pty p).sz (c.pty p).agg&&(match c.poff p with | some o=>Nat.beq o off | none=>false) then
        match S.asD ty (c.pty p) with
        | some z=>some (.bind c (A.idx c k (S.lv (.list c) j) (S.lv (.int k) i)) (fun q=>[⟨.list c,A.setL c k (S.lv (.list c) j) (S.lv (.int k) i) (pset A c q p z)⟩]) { nt:=rdk x++rdk y,no:=[n],wo:=[(n,some (.row e c S.nl))] })
        | none=>none
      else none
    | _=>none
  | some (.aptr n off [] k i sz),some ty=>match look S.O n with
    | some (some (.box bt (.d (.arr m c) j)))=>bif Nat.beq off 0&&Nat.beq sz c.sz&&c.dat false&&tyB P t c.sz c.agg then
        match S.asD ty c with
        | some z=>some (.bind c (A.aidx m c k (S.lv (.arr m c) j) (S.lv (.int k) i)) (fun _=>[⟨.arr m c,A.setA m c k (S.lv (.arr m c) j) (S.lv (.int k) i) z⟩]) { nt:=rdk x++rdk y,no:=[n],wo:=[(n,some (.box bt (.d (.arr m c) S.nl)))] })
        | none=>none
      else none
    | _=>none
  | _,_=>none
end

section
variable {P:Program} {B:Base} {ops:Array Oper} {S:St typ} {ty:TypeId} {pos:String} {af:Array Edge} {d:Nat} {x y:Operand} {t:TypeId}
theorem A5h [Hid] {f:Nat} {s:Stp typ} (hN:d<B.N) (hS:S.ok) (h:opField P S d t x f=some s):s.Ok P B ops ⟨some d,.fieldAddr t x f,ty,pos,af,none⟩ S:=by
  unfold opField at h;split at h
  · rename_i o n off p hf hx;obtain⟨fs,fl,m,ag,h1,h2,h3,h4,h5⟩:=A2y hf;split at h
    · rename_i ob hn;cases h;exact ok1o hx hn rfl fun nt hx=>OpJ.fieldP h1 h2 h3 h4 h5 hN hx
    · cases h
  · rename_i o n sz k i off p hf hx;obtain⟨fs,fl,m,ag,h1,h2,h3,h4,h5⟩:=A2y hf;split at h
    · rename_i ob hn;cases h;have hl:(TV.eptr n sz k i off p).lt S.nl=true:=M7 hS hx;refine ok1o hx hn ?_ fun nt hx=>OpJ.fieldP h1 h2 h3 h4 h5 hN hx;have e:S.push [] (.int k) i=S.lv (.int k) i:=B5 _ _ (TV.A7 hl);simp only [TV.v,TV.vs,List.headD,e,Nat.add_assoc,List.cons_append]
    · cases h
  · rename_i o b i hf hx;obtain⟨fs,fl,m,ag,h1,h2,h3,h4,h5⟩:=A2y hf;cases hb:Nat.blt f b.nf&&Nat.beq (b.foff f) o&&b.dat true with
    | false=>rw [hb] at h;cases h
    | true =>
      rw [hb] at h;cases h;simp only [Bool.and_eq_true] at hb;obtain⟨g1,g2,g3,_⟩:=Ty.F8 (c:=b) hb.2 (S.lv (.st b) i) f (TV.A7 hb.1.1);have g2':=g2.trans (Nat.eq_of_beq_eq_true hb.1.2);refine ok1 hx ?_ fun nt hx=>OpJ.fieldD h1 h2 h3 h4 h5 g1 g2' hN hx;simp only [TV.v,TV.vs,List.headD,C3]
  · cases h
theorem B08 [Hid] {s:Stp typ} (hN:d<B.N) (hS:S.ok) (h:opNil S d x=some s):s.Ok P B ops ⟨some d,.nilCheck x,ty,pos,af,none⟩ S:=by
  have ob:∀ {n:Nat} {r:TV},S.op x=some r→(∃ o p,r.v S.lv = .ptr n o p)→opNil.ob S d x n r=some s→s.Ok P B ops ⟨some d,.nilCheck x,ty,pos,af,none⟩ S:=by
    intro n r hx ⟨o,p,e⟩ h;unfold opNil.ob at h;split at h
    · rename_i b hn;cases h;refine ok1o hx hn (G2 (M7 hS hx)) fun nt hx => ?_;rw [e] at hx ⊢;exact OpJ.nilP hN hx
    · cases h
  unfold opNil at h;split at h
  · rename_i hx;exact ob hx ⟨_,_,rfl⟩ h
  · rename_i hx;exact ob hx ⟨_,_,rfl⟩ h
  · rename_i hx;exact ob hx ⟨_,_,rfl⟩ h
  · rename_i hx;cases h;exact ok1 hx (G2 (M7 hS hx)) fun nt hx=>OpJ.nilD hN hx
  · cases h
theorem A6w [Hid] {y:Operand} {k:IntKind} {a:Int} {ia:Nat} {lf:List (Lf typ)} (hS:S.ok) (h:S.ix y=some ⟨k,a,ia,lf⟩):∃ tx,S.op y=some tx∧tx.v S.lv = .d (.int k a)∧S.push lf (.int k) ia=a:=by
  unfold St.ix at h;split at h
  · rename_i e;cases h;have hl:=M7 hS e;exact⟨_,e,rfl,B5 _ _ (TV.A7 hl)⟩
  · rename_i k' n e;cases h;exact⟨_,e,rfl,C3⟩
  · cases h
theorem A03 {c:Ty} {xs:List c.T} {a:Int} {q:c.T} (h:idx xs a=some q):0≤a∧(xs.map c.enc)[a.toNat]? = some (c.enc q) :=
  ⟨(I0 h).1,by rw [List.getElem?_map,(I0 h).2];rfl⟩
theorem A5i [Hid] {s:Stp typ} (hN:d<B.N) (hS:S.ok) (h:opIndex P S d t x y=some s):s.Ok P B ops ⟨some d,.indexAddr t x y,ty,pos,af,none⟩ S:=by
  unfold opIndex at h;split at h
  · rename_i e c j hu hx;cases hb:tyB P e c.sz c.agg&&c.dat false with
    | false=>rw [hb] at h;cases h
    | true =>
      rw [hb] at h;simp only [Bool.and_eq_true] at hb;simp only [cond_true] at h;split at h
      · rename_i k a hy;obtain⟨tx,e1,e2⟩:=B9 hy;cases h;intro q hq;refine ok2 hx e1 (v:=.dptr (c.enc q)) (by simp only [TV.v,TV.vs,List.headD,C3]) fun nt nt' hx hy => ?_;rw [e2] at hy;exact OpJ.indexD hu (C5 hb.1) (A03 hq).1 (A03 hq).2 hN hx hy
      · cases h
  · rename_i e n c j hu hx;split at h
    · rename_i r c' i hn;split at h
      · rename_i hc;subst hc;cases hb:tyB P e c'.sz c'.agg with
        | false=>rw [hb] at h;cases h
        | true =>
          rw [hb] at h;simp only [cond_true] at h;split at h
          · rename_i k a ia lf hy;obtain⟨tx,e1,e2,e3⟩:=A6w hS hy;cases h;intro q hq;have hq':idx (S.lv (.list c') i) a=some q∧List.length (S.lv (.list c') i)=List.length (S.lv (.list c') j):=by
              cases hij:Nat.beq i j with
              | true =>
                rw [hij] at hq;have:=Nat.eq_of_beq_eq_true hij;subst this;exact⟨hq,rfl⟩
              | false =>
                rw [hij] at hq;obtain⟨h1,h2⟩:=G6 hq;exact⟨h2,of_decide_eq_true h1⟩
            refine ok2o hx e1 hn (v:=.ptr n ((0+a.toNat)*c'.sz) [0+a.toNat]) ?_ fun nt nt' hx hy => ?_
            · simp only [TV.v,TV.vs,List.headD,e3,Nat.zero_add,Nat.add_zero]
            · rw [e2] at hy;have:=A59 hq'.1;exact OpJ.indexS hu (C5 hb) (I0 hq'.1).1 (by rw [← hq'.2];exact this) hN hx hy
          · cases h
      · cases h
    · cases h
  · rename_i m e m' c j hu hx;cases hb:Nat.beq m m'&&tyB P e c.sz c.agg&&c.dat false with
    | false=>rw [hb] at h;cases h
    | true =>
      rw [hb] at h;simp only [Bool.and_eq_true] at hb;simp only [cond_true] at h;split at h
      · rename_i k a hy;obtain⟨tx,e1,e2⟩:=B9 hy;cases h;intro q hq;have:=Nat.eq_of_beq_eq_true hb.1.1;subst this;refine ok2 hx e1 (v:=.dptr (c.enc q)) (by simp only [TV.v,TV.vs,List.headD,C3]) fun nt nt' hx hy => ?_;rw [e2] at hy;exact OpJ.indexDA hu (C5 hb.1.2) (A03 hq).1 (A03 (c:=c) hq).2 hN hx hy
      · cases h
  · rename_i m e n off p hu hx;split at h
    · rename_i ob hn;split at h
      · rename_i ie de k a ia lf hi hd hy;obtain⟨tx,e1,e2,e3⟩:=A6w hS hy;have ht:TyS P e ie.size (descAgg de):=⟨by rw [hi];rfl,by rw [hd];rfl⟩;have main:ltcT a m=true→OkO P B ops ⟨some d,.indexAddr t x y,ty,pos,af,none⟩ S lf { nt:=rdk x++rdk y,no:=[n],wt:=[(d,.aptr n off p k ia ie.size)] }:=fun hb=>by
          simp only [ltcT,Bool.and_eq_true,decide_eq_true_eq] at hb;refine ok2o hx e1 hn (v:=.ptr n (off+a.toNat*ie.size) (p++[a.toNat])) ?_ fun nt nt' hx hy => ?_
          · simp only [TV.v,TV.vs,List.headD,e3]
          · rw [e2] at hy;exact OpJ.indexPA hu ht hb.1 hb.2 hN hx hy
        split at h
        · rename_i kk z hyy;rw [hyy] at e1;cases e1;have e5:z=a:=by simp only [TV.v,TV.vs,List.headD] at e2;cases e2;rfl
          subst e5;cases hb:decide (0≤z)&&decide (z<(m:Int)) with
          | false=>rw [hb] at h;cases h
          | true =>
            rw [hb] at h;cases h;exact main hb
        · cases h;exact fun hb=>main hb
      · cases h
    · cases h
  · cases h
theorem W4 [Hid] (hS:S.ok):∀ {p:List Nat} {x:TV} {o:Nat} {r:Rv typ},getP S p x=some (o,r)→x.lt S.nl=true→x.isL=false →
    (∀ z,r = .tv z→At (x.v S.lv) p o (z.v S.lv)∧z.lt S.nl=true)∧(∀ c z,r = .lf c z→At (x.v S.lv) p o (.d (c.enc z))∧c.dat false=true)
  | [],x,o,r,h,hl,_=>by
    simp only [getP,Option.some.injEq,Prod.mk.injEq] at h;obtain⟨rfl,rfl⟩:=h;exact⟨fun z e=>by cases e;exact⟨At.here _,hl⟩,fun c z e=>by cases e⟩
  | i :: p,.st fs,o,r,h,hl,_=>by
    simp only [getP] at h;split at h
    · rename_i f o1 hf ho;cases hg:getP S p f with
      | none=>rw [hg] at h;cases h
      | some q =>
        rw [hg] at h;cases h;have hlf:f.lt S.nl=true:=Y2 (x:=fs) hf hl;have hL:f.isL=false∨f.isL=true:=by cases f.isL<;>simp
        rcases hL with hL | hL
        · obtain⟨g1,g2⟩:=W4 hS (o:=q.1) (r:=q.2) hg hlf hL;exact⟨fun z e=>⟨At.st (O6 hf) (TV.U1 ho) (g1 z e).1,(g1 z e).2⟩,fun c z e=>⟨At.st (O6 hf) (TV.U1 ho) (g2 c z e).1,(g2 c z e).2⟩⟩
        · cases p with
          | nil =>
            simp only [getP,Option.some.injEq] at hg;subst hg;exact⟨fun z e=>by cases e;exact⟨At.st (O6 hf) (TV.U1 ho) (At.here _),hlf⟩,fun c z e=>by cases e⟩
          | cons k p=>cases f<;>first | (simp [TV.isL] at hL;done) | (simp [getP] at hg)
    · cases h
  | i :: p,.d c j,o,r,h,hl,_=>by
    simp only [getP] at h;cases hd:c.dat false with
    | false=>rw [hd] at h;cases h
    | true =>
      rw [hd] at h;cases ho:c.poff (i :: p) with
      | none=>rw [ho] at h;cases h
      | some o1 =>
        rw [ho] at h;cases h;exact⟨fun z e=>by(cases e),fun c z e=>by cases e;exact W3 hd ho _⟩
  | _ :: _,.nil,_,_,h,_,_ | _ :: _,.junk,_,_,h,_,_ | _ :: _,.undef,_,_,h,_,_ | _ :: _,.kb _,_,_,h,_,_ | _ :: _,.ki _ _,_,_,h,_,_ | _ :: _,.ks _,_,_,h,_,_ | _ :: _,.nils,_,_,h,_,_ | _ :: _,.cst _,_,_,h,_,_ | _ :: _,.ptr _ _ _,_,_,h,_,_ | _ :: _,.eptr ..,_,_,h,_,_ | _ :: _,.aptr ..,_,_,h,_,_ | _ :: _,.dptr _ _,_,_,h,_,_ | _ :: _,.sref _ _ _,_,_,h,_,_ | _ :: _,.qref _ _,_,_,h,_,_ | _ :: _,.qptr _ _ _,_,_,h,_,_ | _ :: _,.func _ _,_,_,h,_,_ | _ :: _,.cons _ _,_,_,h,_,_ | _ :: _,.tup _,_,_,h,_,_ | _ :: _,.opt _ _ _,_,_,h,_,_ | _ :: _,.mref _,_,_,h,_,_=>by simp [getP] at h
theorem At.trans {x:V} {p:List Nat} {o:Nat} {y:V} (h:At x p o y) {q:List Nat} {o':Nat} {z:V} (k:At y q o' z):At x (p++q) (o+o') z:=by
  induction h with
  | here=>rw [Nat.zero_add];exact k
  | st a b _ ih=>rw [Nat.add_assoc];exact At.st a b (ih k)
  | dst a b _ ih=>rw [Nat.add_assoc];exact At.dst a b (ih k)
  | arr a _ ih=>rw [Nat.add_assoc];exact At.arr a (ih k)
theorem A8l [Hid] {s:Stp typ} (hN:d<B.N) (hS:S.ok) (h:opLoad P S d t x=some s):s.Ok P B ops ⟨some d,.load t x,ty,pos,af,none⟩ S:=by
  unfold opLoad at h;split at h
  · rename_i c i hx;cases hb:tyB P t c.sz c.agg&&c.dat false with
    | false=>rw [hb] at h;cases h
    | true =>
      rw [hb] at h;cases h;simp only [Bool.and_eq_true] at hb;have hl:(TV.dptr c i).lt S.nl=true:=M7 hS hx;exact ok1 hx (G2 (x:=.d c i) hl) fun nt hx=>OpJ.loadD (C5 hb.1) (Ty.H7 hb.2 _) (Ty.B2 hb.2 _) hN hx
  · rename_i n off p hx;split at h
    · rename_i bt y hn;have hly:y.lt S.nl=true:=C2 (x:=.box bt y) hS.2 hn;cases hL:y.isL with
      | true=>rw [hL] at h;cases h
      | false =>
        rw [hL,cond_false] at h;split at h
        · rename_i o z hg;split at h
          · rename_i m hm;cases hb:Nat.beq o off&&tyB P t m z.agg && !z.isL with
            | false=>rw [hb] at h;cases h
            | true =>
              rw [hb] at h;cases h;simp only [Bool.and_eq_true,Bool.not_eq_true'] at hb;obtain⟨g1,g2⟩:=(W4 hS hg hly hL).1 z rfl;have:=Nat.eq_of_beq_eq_true hb.1.1;subst this;exact ok1o hx hn (G2 g2) fun nt hx=>OpJ.loadB (C5 hb.1.2) g1 (TV.T7 hb.2 (by rw [hm];simp)) (TV.sz_v hm hb.2) (TV.H5 hm hb.2).1 hN hx
          · cases h
        · rename_i o c z hg;cases hb:Nat.beq o off&&tyB P t c.sz c.agg with
          | false=>rw [hb] at h;cases h
          | true =>
            rw [hb] at h;cases h;simp only [Bool.and_eq_true] at hb;obtain⟨g1,g2⟩:=(W4 hS hg hly hL).2 c z rfl;have:=Nat.eq_of_beq_eq_true hb.1;subst this;exact ok1o hx hn B6 fun nt hx=>OpJ.loadB (C5 hb.2) g1 (Ty.H7 g2 _) (Ty.B2 g2 _) rfl hN hx
        · cases h
    · cases h
  · rename_i n sz k i off p hx;split at h
    · rename_i e c j hn;cases hb:Nat.beq sz c.sz&&c.dat false&&tyB P t (c.pty p).sz (c.pty p).agg&&(match c.poff p with | some o=>Nat.beq o off | none=>false) with
      | false=>rw [hb] at h;cases h
      | true =>
        rw [hb] at h;cases h;simp only [Bool.and_eq_true] at hb;have:=Nat.eq_of_beq_eq_true hb.1.1.1;subst this;intro q hq;have ho:=hb.2;split at ho
        · rename_i o ho';have:=Nat.eq_of_beq_eq_true ho;subst this;obtain⟨g1,g2⟩:=W3 hb.1.1.2 ho' q;exact ok1o hx hn B6 fun nt hx=>OpJ.loadR (C5 hb.1.2) (A03 hq).2 g1 rfl (Ty.H7 g2 _) (Ty.B2 g2 _) hN hx
        · cases ho
    · cases h
  · rename_i n off p k i sz hx;split at h
    · rename_i bt y hn;have hly:y.lt S.nl=true:=C2 (x:=.box bt y) hS.2 hn;cases hL:y.isL with
      | true=>rw [hL] at h;cases h
      | false =>
        rw [hL,cond_false] at h;have main:∀ {o m:Nat} {c:Ty} {xs:List c.T},At (y.v S.lv) p o (.d ((Ty.arr m c).enc xs))→(Nat.beq o off&&Nat.beq sz c.sz&&c.dat false&&tyB P t c.sz c.agg)=true→∀ q,idx xs (S.lv (.int k) i)=some q →
            OkO P B ops ⟨some d,.load t x,ty,pos,af,none⟩ S [⟨c,q⟩] { nt:=rdk x,no:=[n],wt:=[(d,.d c S.nl)] }:=fun {o m c xs} hat hb q hq=>by
          simp only [Bool.and_eq_true] at hb;have:=Nat.eq_of_beq_eq_true hb.1.1.1;subst this;have:=Nat.eq_of_beq_eq_true hb.1.1.2;subst this;have g:=hat.trans (At.arr (A03 hq).2 (At.here _));rw [Nat.add_zero] at g;exact ok1o hx hn B6 fun nt hx=>OpJ.loadB (C5 hb.2) g (Ty.H7 hb.1.2 _) (Ty.B2 hb.1.2 _) rfl hN hx
        split at h
        · rename_i o m c j hg;cases hb:Nat.beq o off&&Nat.beq sz c.sz&&c.dat false&&tyB P t c.sz c.agg with
          | false=>rw [hb] at h;cases h
          | true =>
            rw [hb] at h;cases h;exact fun q hq=>main ((W4 hS hg hly hL).1 _ rfl).1 hb q hq
        · rename_i o m c z hg;cases hb:Nat.beq o off&&Nat.beq sz c.sz&&c.dat false&&tyB P t c.sz c.agg with
          | false=>rw [hb] at h;cases h
          | true =>
            rw [hb] at h;cases h;exact fun q hq=>main ((W4 hS hg hly hL).2 _ _ rfl).1 hb q hq
        · cases h
    · cases h
  · cases h
theorem A6x [Hid] {b:Ty} (hb:b.dat true=true) (x:(Ty.st b).T) {f:Val}:∀ {n k i:Nat},k+n=b.nf→HasAt f i (expL typ b x k n)→(expT b i k n).vs f=((b.encs x).drop k).map V.d
  | 0,k,i,e,_=>by
    have:(b.encs x).drop k=[]:=by
      apply List.drop_eq_nil_of_le;have:=Ty.B00 hb x;omega
    rw [this];rfl
  | n+1,k,i,e,hf=>by
    obtain⟨g1,_,_,_⟩:=Ty.F8 hb x k (by omega);have h0:=hf 0 _ _ rfl;rw [Nat.add_zero] at h0;have ih:=A6x hb x (n:=n) (k:=k+1) (i:=i+1) (by omega) (fun m c y hm=>by
      have:=hf (m+1) c y hm;rw [show i+1+m=i+(m+1) from by omega];exact this)
    simp only [expT,TV.vs,List.headD,h0,ih];have hd:(b.encs x).drop k=(b.fty k).enc (b.fget x k) :: (b.encs x).drop (k+1):=by
      obtain⟨hlt,he⟩:=List.getElem?_eq_some_iff.1 g1;rw [List.drop_eq_getElem_cons hlt,he]
    rw [hd];rfl
theorem B09 [Hid] {i:Nat} {p:List Nat} {c:Ty} {x:c.T} {y x':TV} {o m:Nat} {lf:List (Lf typ)} (hd:c.dat false=true) (h:setEx S i p c x y=some (o,x',lf)) (hy:y.lt S.nl=true) (hyL:y.isL=false) (hm:y.sz? = some m) :
    ∃ v,(v=y.v S.lv∨∃ e,Co (y.v S.lv) e∧v = .d e)∧v.sz=m∧v.isTop=false∧v ≠ .junk∧SetAt (.d (c.enc x)) (i :: p) o v (x'.v (S.push lf)):=by
  cases c with
  | st b =>
    simp only [setEx] at h;split at h
    · rename_i gs m' hs hm';cases hc:Nat.blt i b.nf&&Nat.beq m' (b.fty i).sz && !y.isL&&y.lt S.nl with
      | false=>rw [hc] at h;cases h
      | true =>
        rw [hc] at h;cases h;simp only [Bool.and_eq_true] at hc;rw [hm] at hm';cases hm';obtain⟨g1,g2,g3,_⟩:=Ty.F8 (c:=b) hd x i (TV.A7 hc.1.1.1);have e0:=A6x (b:=b) hd x (n:=b.nf) (k:=0) (i:=S.nl) (by omega) (St.hasAt (expL typ b x 0 b.nf));refine⟨_,.inl rfl,TV.sz_v hm hyL,(TV.H5 hm hyL).1,(TV.H5 hm hyL).2,?_⟩;have e1:(TV.st gs).v (S.push (expL typ b x 0 b.nf)) = .st (((b.encs x).map V.d).set i (y.v S.lv)):=by
          show V.st (gs.vs _)=_;rw [TV.W2 hs,e0,G2 hy];rfl
        rw [e1];refine SetAt.lift ?_;have:=SetAt.st (fs:=(b.encs x).map V.d) (i:=i) (p:=[]) (f:=.d ((b.fty i).enc (b.fget x i))) (o:=b.foff i) (off:=0) (y:=y.v S.lv) (f':=y.v S.lv)
          (by rw [List.getElem?_map,g1];rfl) (by rw [← List.map_take,G5];exact g2) (SetAt.here _ _) (by rw [TV.sz_v hm hyL];show m=D.sz _;rw [Ty.B2 g3];exact Nat.eq_of_beq_eq_true hc.1.1.2)
        exact this
    · cases h
  | _=>simp [setEx] at h
theorem A3z [Hid] (hS:S.ok):∀ {p:List Nat} {x y x':TV} {o m:Nat} {lf:List (Lf typ)},setPt S p x y=some (o,x',lf)→x.lt S.nl=true→x.isL=false→y.lt S.nl=true→y.isL=false→y.sz? = some m →
    ∃ v,(v=y.v S.lv∨∃ e,Co (y.v S.lv) e∧v = .d e)∧v.sz=m∧v.isTop=false∧v ≠ .junk∧SetAt (x.v S.lv) p o v (x'.v (S.push lf))
  | [],x,y,x',o,m,lf,h,hl,hL,hy,hyL,hm=>by
    simp only [setPt,Option.some.injEq,Prod.mk.injEq] at h;obtain⟨rfl,rfl,rfl⟩:=h;rw [G2 hy];exact⟨_,.inl rfl,TV.sz_v hm hyL,(TV.H5 hm hyL).1,(TV.H5 hm hyL).2,SetAt.here _ _⟩
  | i :: p,.st fs,y,x',o,m,lf,h,hl,hL,hy,hyL,hm=>by
    simp only [setPt] at h;split at h
    · rename_i f o1 hf ho;cases hg:setPt S p f y with
      | none=>rw [hg] at h;cases h
      | some r =>
        rw [hg] at h;simp only [Option.bind_some] at h;split at h
        · rename_i a b gs ha hb hs;cases hc:Nat.beq a b && !f.isL && !r.2.1.isL with
          | false=>rw [hc] at h;cases h
          | true =>
            rw [hc] at h;cases h;simp only [Bool.and_eq_true,Bool.not_eq_true'] at hc;have hlf:f.lt S.nl=true:=Y2 (x:=fs) hf hl;obtain⟨v,g1,g2,g3,g4,g5⟩:=A3z hS (x':=r.2.1) (o:=r.1) (lf:=r.2.2) hg hlf hc.1.2 hy hyL hm;refine⟨v,g1,g2,g3,g4,?_⟩;have e1:(TV.st gs).v (S.push r.2.2) = .st ((fs.vs S.lv).set i (r.2.1.v (S.push r.2.2))):=by
              show V.st (gs.vs (S.push r.2.2))=_;rw [TV.W2 hs,TV.J9 (g:=S.lv) (fun c i hi=>B5 c i hi) (x:=fs) hl]
            rw [e1];have:=Nat.eq_of_beq_eq_true hc.1.1;subst this;exact SetAt.st (O6 hf) (TV.U1 ho) g5 (by rw [TV.sz_v hb hc.2,TV.sz_v ha hc.1.2])
        · cases h
    · cases h
  | i :: p,.d c j,y,x',o,m,lf,h,hl,hL,hy,hyL,hm=>by
    simp only [setPt] at h;cases hd:c.dat false with
    | false=>rw [hd] at h;cases h
    | true =>
      rw [hd,cond_true] at h;split at h
      · rename_i o1 z ho hz;cases h;obtain⟨g1,g2⟩:=W3 hd ho (S.lv c j);have hco:=K4 hz g2;refine⟨.d ((c.pty (i :: p)).enc z),.inr ⟨_,hco,rfl⟩,?_,rfl,V.noConfusion,?_⟩
        · rw [← TV.sz_v (f:=S.lv) hm hyL];exact(Co.sz hco).symm
        · rw [B6];exact A2w hd ho (S.lv c j) z
      · exact B09 hd h hy hyL hm
      · cases h
  | _ :: _,.nil,_,_,_,_,_,h,_,_,_,_,_ | _ :: _,.junk,_,_,_,_,_,h,_,_,_,_,_ | _ :: _,.undef,_,_,_,_,_,h,_,_,_,_,_ | _ :: _,.kb _,_,_,_,_,_,h,_,_,_,_,_ | _ :: _,.ki _ _,_,_,_,_,_,h,_,_,_,_,_ | _ :: _,.ks _,_,_,_,_,_,h,_,_,_,_,_ | _ :: _,.nils,_,_,_,_,_,h,_,_,_,_,_ | _ :: _,.cst _,_,_,_,_,_,h,_,_,_,_,_ | _ :: _,.ptr _ _ _,_,_,_,_,_,h,_,_,_,_,_ | _ :: _,.eptr ..,_,_,_,_,_,h,_,_,_,_,_ | _ :: _,.aptr ..,_,_,_,_,_,h,_,_,_,_,_ | _ :: _,.dptr _ _,_,_,_,_,_,h,_,_,_,_,_ | _ :: _,.sref _ _ _,_,_,_,_,_,h,_,_,_,_,_ | _ :: _,.qref _ _,_,_,_,_,_,h,_,_,_,_,_ | _ :: _,.qptr _ _ _,_,_,_,_,_,h,_,_,_,_,_ | _ :: _,.func _ _,_,_,_,_,_,h,_,_,_,_,_ | _ :: _,.cons _ _,_,_,_,_,_,h,_,_,_,_,_ | _ :: _,.tup _,_,_,_,_,_,h,_,_,_,_,_ | _ :: _,.opt _ _ _,_,_,_,_,_,h,_,_,_,_,_ | _ :: _,.mref _,_,_,_,_,_,h,_,_,_,_,_=>by simp [setPt] at h
theorem okSt [Hid] {o:Oper} {lf:List (Lf typ)} {n:Nat} {tx ty:TV} {b b':TOb} {v:V} {β:Ob} (hx:S.op x=some tx) (hy:S.op y=some ty) (hv:v=ty.v S.lv∨∃ e,Co (ty.v S.lv) e∧v = .d e) (hn:look S.O n=some (some b)) (hb:b'.o (S.push lf)=β)
    (h:∀ nt nt',Opd x (tx.v S.lv) nt→Opd y v nt'→OpJ P B ops o { nt:=nt++nt',no:=[(n,b.o S.lv)],wo:=[(n,some β)] }):OkO P B ops o S lf { nt:=rdk x++rdk y,no:=[n],wo:=[(n,some b')] }:=by
  have hy2:Opd y v (on y (ty.v S.lv)):=by
    rcases hv with rfl | ⟨e,hc,rfl⟩
    · exact(A5 hy).1
    · exact Opd.co hc (A5 hy).1
  exact⟨_,h _ _ (A5 hx).1 hy2,B8 (A5 hx).2 (A5 hy).2,by simp only [rO,rO',C7,hn,Option.map_some],rfl,rfl,by simp only [oOf,List.map,Option.map,hb],by rw [B4,A8,A8],rfl,rfl⟩
theorem A5j [Hid] {s:Stp typ} (hS:S.ok) (h:opStore P S t x y=some s):s.Ok P B ops ⟨none,.store t x y,ty,pos,af,none⟩ S:=by
  unfold opStore at h;split at h
  · rename_i n off p tv hx hy;split at h
    · rename_i bt c hn;split at h
      · rename_i o c' lf a m hg ha hm;split at h
        · rename_i b hb;cases hc:Nat.beq o off&&Nat.beq a b&&tyB P t m tv.agg && !tv.isL && !c.isL && !c'.isL with
          | false=>rw [hc] at h;cases h
          | true =>
            rw [hc] at h;cases h;simp only [Bool.and_eq_true,Bool.not_eq_true'] at hc;have hlc:c.lt S.nl=true:=C2 (x:=.box bt c) hS.2 hn;obtain⟨v,g1,g2,g3,g4,g5⟩:=A3z hS hg hlc hc.1.2 (M7 hS hy) hc.1.1.2 hm;have:=Nat.eq_of_beq_eq_true hc.1.1.1.1.1;subst this;have:=Nat.eq_of_beq_eq_true hc.1.1.1.1.2;subst this;exact okSt (v:=v) hx hy g1 hn rfl fun nt nt' hx hy=>OpJ.storeB (C5 hc.1.1.1.2) g5 g2 (by rw [TV.sz_v hb hc.2,TV.sz_v ha hc.1.2]) g4 g3 hx hy
        · cases h
      · cases h
    · cases h
  · rename_i n sz k i off p tv hx hy;split at h
    · rename_i e c j hn;cases hb:Nat.beq sz c.sz&&c.dat false&&tyB P t (c.pty p).sz (c.pty p).agg&&(match c.poff p with | some o=>Nat.beq o off | none=>false) with
      | false=>rw [hb] at h;cases h
      | true =>
        rw [hb,cond_true] at h;simp only [Bool.and_eq_true] at hb;split at h
        · rename_i z hz;cases h;have:=Nat.eq_of_beq_eq_true hb.1.1.1;subst this;intro q hq;have ho:=hb.2;split at ho
          · rename_i o ho';have:=Nat.eq_of_beq_eq_true ho;subst this;obtain⟨g1,g2⟩:=W3 hb.1.1.2 ho' q;have k1:=A2w hb.1.1.2 ho' q z;have e1:List.map c.enc (List.set (S.lv (.list c) j) (Int.toNat (S.lv (.int k) i)) (pset typ c q p z))=(List.map c.enc (S.lv (.list c) j)).set (Int.toNat (S.lv (.int k) i)) (c.enc (pset typ c q p z)):=V7 _ _ _ _;refine okSt (v:=.d ((c.pty p).enc z)) hx hy (.inr ⟨_,K4 hz g2,rfl⟩) hn (congrArg (fun l:List c.T=>Ob.row e c.sz (List.map c.enc l)) (C3 (c:=.list c))) fun nt nt' hx hy => ?_;exact OpJ.storeR (C5 hb.1.2) (A03 hq).2 k1 rfl e1 (Ty.B2 g2 _) (by rw [Ty.B2 hb.1.1.2,Ty.B2 hb.1.1.2]) hx hy
          · cases ho
        · cases h
    · cases h
  · rename_i n off k i sz tv hx hy;split at h
    · rename_i bt m c j hn;cases hb:Nat.beq off 0&&Nat.beq sz c.sz&&c.dat false&&tyB P t c.sz c.agg with
      | false=>rw [hb] at h;cases h
      | true =>
        rw [hb,cond_true] at h;simp only [Bool.and_eq_true] at hb;split at h
        · rename_i z hz;cases h;have:=Nat.eq_of_beq_eq_true hb.1.1.1;subst this;have:=Nat.eq_of_beq_eq_true hb.1.1.2;subst this;intro q hq;have e1:List.map c.enc (List.set (S.lv (.arr m c) j) (Int.toNat (S.lv (.int k) i)) z)=(List.map c.enc (S.lv (.arr m c) j)).set (Int.toNat (S.lv (.int k) i)) (c.enc z):=V7 _ _ _ _;refine okSt (v:=.d (c.enc z)) hx hy (.inr ⟨_,K4 hz hb.1.2,rfl⟩) hn (β:=.box bt (.d (.arr m c.sz ((List.map c.enc (S.lv (.arr m c) j)).set (Int.toNat (S.lv (.int k) i)) (c.enc z))))) ?_ fun nt nt' hx hy => ?_
          · exact(congrArg (fun l:List c.T=>Ob.box bt (.d (.arr m c.sz (List.map c.enc l)))) (C3 (c:=.arr m c))).trans (congrArg (fun l=>Ob.box bt (.d (.arr m c.sz l))) e1)
          · have g:=SetAt.arr (n:=m) (sz:=c.sz) (A03 (c:=c) hq).2 (SetAt.here (.d (c.enc q)) (.d (c.enc z))) (by rw [Ty.B2 hb.1.2,Ty.B2 hb.1.2]);rw [Nat.add_zero] at g;have hx':Opd x (.ptr n (Int.toNat (S.lv (.int k) i)*c.sz) [Int.toNat (S.lv (.int k) i)]) nt:=by
              simpa only [TV.v,TV.vs,List.headD,Nat.zero_add,List.nil_append] using hx
            exact OpJ.storeB (C5 hb.2) g (Ty.B2 hb.1.2 _) rfl V.noConfusion rfl hx' hy
        · cases h
    · cases h
  · cases h
end
end Go.Vc
namespace Go.Vc
open Go

def placesB (P:Program):List Field→Option (List (Nat×Nat))
  | []=>some []
  | f :: fs=>match P.info? f.type with
    | some i=>(placesB P fs).map fun l=>(f.offset,i.size) :: l
    | none=>none
theorem A0w {P:Program} (w:World):∀ {fs:List Field} {l:List (Nat×Nat)},placesB P fs=some l→(fs.mapM fun f=>do pure (f.offset,← sizeOf f.type):Sem (List (Nat×Nat))).run P w = .ok l w
  | [],l,h=>by simp only [placesB,Option.some.injEq] at h;subst h;rfl
  | f :: fs,l,h=>by
    simp only [placesB] at h;split at h
    · rename_i i hi;cases hp:placesB P fs with
      | none=>rw [hp] at h;cases h
      | some m =>
        rw [hp] at h;cases h;have:=A0w w hp;have hs:(sizeOf f.type).run P w = .ok i.size w:=by simp [sizeOf,typeInfo,hi]
        rw [List.mapM_cons];simp only [Sem.run_bind,hs,Result.andThen_ok,Sem.run_pure,this]
    · cases h
theorem A5k {P:Program} {t:TypeId} {fs:Array Field} {l:List (Nat×Nat)} (hu:P.underlying t=some (.struct fs)) (h:placesB P fs.toList=some l):TyF P t fs l :=
  ⟨hu,fun w=>by
    have:=A0w w h;rw [Array.mapM_eq_mapM_toList,map_eq_pure_bind];simp only [Sem.run_bind,this,Result.andThen_ok,Sem.run_pure]⟩
section
variable {A:Alg}
def partsT (S:St A) (places:List (Nat×Nat)):TV→List (Nat×Operand)→Option (TV×List Nat)
  | cur,[]=>some (cur,[])
  | cur,(i,x) :: ps=>match cur.nth i,S.op x,places[i]?,cur.off? i with
    | some f,some y,some (o,n),some o'=>match f.sz?,y.sz?,cur.setN i y with
      | some a,some b,some cur'=>bif Nat.beq a b&&Nat.beq o o'&&Nat.beq n a && !f.isL && !y.isL then (partsT S places cur' ps).map fun r=>(r.1,rdk x++r.2) else none
      | _,_,_=>none
    | _,_,_,_=>none
def opBuild (P:Program) (S:St A) (d:Nat) (t:TypeId) (parts:List (Nat×Operand)):Option (Stp A) :=
  match P.underlying t with
  | some (.struct fs)=>match placesB P fs.toList,zT A P 12 t S.nl,zV P 12 t with
    | some places,some (.st zs,lf),some z=>bif zB P t z&&zs.lt (S.nl+lf.length) then
        (partsT S places zs parts).map fun r => .pure lf { nt:=r.2,wt:=[(d,.st r.1)] } else none
    | _,_,_=>none
  | _=>none
def elemsT (S:St A) (c:Ty):List (A.I c)→List (Nat×Operand)→Option (List (A.I c)×List Nat)
  | l,[]=>some (l,[])
  | l,(i,x) :: ps=>match S.op x with
    | some y=>match S.asD y c with
      | some z=>bif Nat.blt i l.length then (elemsT S c (l.set i z) ps).map fun r=>(r.1,rdk x++r.2) else none
      | none=>none
    | none=>none
def opSlice0 (P:Program) (S:St A) (d:Nat) (t:TypeId) (m:Nat) (parts:List (Nat×Operand)):Option (Stp A) :=
  match P.underlying t with
  | some (.slice e)=>match codeT P 12 e with
    | some c=>bif c.dat false&&tyB P e c.sz c.agg&&zB P e (.d (c.enc c.zero))&&Nat.blt 0 c.sz&&Nat.ble (m*c.sz) 16777216 then
        (elemsT S c (List.replicate m (A.zero c)) parts).map fun r => .pure [⟨.list c,A.lit c r.1⟩] { nt:=r.2,wt:=[(d,.d (.list c) S.nl)] } else none
    | none=>none
  | _=>none
def opArr0 (P:Program) (S:St A) (d:Nat) (t:TypeId) (parts:List (Nat×Operand)):Option (Stp A) :=
  match P.underlying t with
  | some (.array m e)=>match codeT P 12 e with
    | some c=>bif c.dat false&&tyB P e c.sz c.agg&&zB P t (.d ((Ty.arr m c).enc (Ty.arr m c).zero)) then
        (elemsT S c (List.replicate m (A.zero c)) parts).map fun r => .pure [⟨.arr m c,A.mkA m c r.1⟩] { nt:=r.2,wt:=[(d,.d (.arr m c) S.nl)] } else none
    | none=>none
  | _=>none
def opAlloc (P:Program) (S:St A) (d:Nat) (t:TypeId):Option (Stp A) :=
  match zT A P 12 t S.nl,zV P 12 t with
  | some (x,lf),some z=>bif zB P t z&&Nat.ble 1000 S.nx then some (.pure lf { nf:=[S.nx],wt:=[(d,.ptr S.nx 0 [])],wo:=[(S.nx,some (.box t x))] }) else none
  | _,_=>none
def opBox (S:St A) (d:Nat) (t:TypeId) (x:Operand):Option (Stp A) :=
  match S.op x with
  | some y=>match y.sz? with
    | some _=>bif Nat.ble 1000 S.nx && !y.isL then some (.pure [] { nt:=rdk x,nf:=[S.nx],wt:=[(d,.ptr S.nx 0 [])],wo:=[(S.nx,some (.box t y))] }) else none
    | none=>none
  | none=>none
def bytesOf (P:Program) (e:TypeId):Nat:=match P.info? e with | some i=>i.bytes | none=>0
def opApp (P:Program) (S:St A) (d:Nat) (t:TypeId) (x y:Operand):Option (Stp A) :=
  match P.underlying t,S.op x,S.op y with
  | some (.slice e),some tx,some ty=>match codeT P 12 e with
    | some c=>bif tyEB P e c.sz (bytesOf P e)&&Nat.ble (bytesOf P e) 32768&&Nat.ble 1000 S.nx&&c.dat false then
        match tx,S.asD ty (.list c) with
        | .sref n c' j,some ys=>match look S.O n with
          | some (some (.row e' c2 i))=>bif Nat.beq e' e&&decide (c'=c)&&decide (c2=c) then
              let l:=A.app c (S.lv (.list c) i) ys
              let b:=bif Nat.beq i j then A.fitL c l else A.and (A.sameLen c (S.lv (.list c) j) (S.lv (.list c) i)) (A.fitL c l)
              some (.chk b [⟨.list c,l⟩] { nt:=rdk x++rdk y,no:=[n],nf:=[S.nx],wt:=[(d,.sref S.nx c S.nl)],wo:=[(S.nx,some (.row e c S.nl)),(n,none)] })
            else none
          | _=>none
        | .nils,some ys=>some (.chk (A.fitL c ys) [⟨.list c,ys⟩] { nt:=rdk x++rdk y,nf:=[S.nx],wt:=[(d,.sref S.nx c S.nl)],wo:=[(S.nx,some (.row e c S.nl))] })
        | _,_=>none
      else none
    | none=>none
  | _,_,_=>none
def opMake (P:Program) (S:St A) (d:Nat) (t:TypeId) (x y:Operand):Option (Stp A) :=
  match P.underlying t,S.anyI x,S.anyI y with
  | some (.slice e),some ⟨k,a⟩,some ⟨k',b⟩=>match codeT P 12 e with
    | some c=>bif tyEB P e c.sz (bytesOf P e)&&Nat.ble (bytesOf P e) 65536&&Nat.ble 1000 S.nx&&c.dat false&&zB P e (.d (c.enc c.zero)) then
        if h:k'=k then
          some (.chk (A.and (A.and (A.ge0 k a) (A.cmp .leq k a (h ▸ b))) (A.fitI k' b)) [⟨.list c,A.repL c k a (A.zero c)⟩] { nt:=rdk x++rdk y,nf:=[S.nx],wt:=[(d,.sref S.nx c S.nl)],wo:=[(S.nx,some (.row e c S.nl))] })
        else none
      else none
    | none=>none
  | _,_,_=>none
def opLen (P:Program) (S:St A) (d:Nat) (t:TypeId) (x:Operand):Option (Stp A) :=
  match P.underlying t,S.op x with
  | some (.slice _),some .nils=>some (.pure [] { nt:=rdk x,wt:=[(d,.ki .i64 0)] })
  | some (.slice _),some (.d (.list c) j)=>some (S.leaf1 d (rdk x) [] (.int .i64) (A.len c (S.lv (.list c) j)))
  | some (.slice _),some (.sref n c j)=>match look S.O n with
    | some (some _)=>some (S.leaf1 d (rdk x) [n] (.int .i64) (A.len c (S.lv (.list c) j)))
    | _=>none
  | some .string,some tx=>match S.exact .str tx with
    | some s=>some (S.leaf1 d (rdk x) [] (.int .i64) (A.slen s))
    | none=>none
  | _,_=>none
def opMM (S:St A) (d:Nat) (m:Bool) (x y:Operand):Option (Stp A) :=
  match S.anyI x,S.anyI y with
  | some ⟨k,a⟩,some ⟨k',b⟩=>if h:k'=k then some (S.leaf1 d (rdk x++rdk y) [] (.int k) (A.mm m k a (h ▸ b))) else none
  | _,_=>none
def opSidx (P:Program) (S:St A) (d:Nat) (t:TypeId) (x y:Operand):Option (Stp A) :=
  match P.underlying t,S.op x,S.anyI y with
  | some .string,some tx,some ⟨k,a⟩=>match S.exact .str tx with
    | some s=>some (.bind (.int .u8) (A.sidx k s a) (fun q=>[⟨.int .u8,q⟩]) { nt:=rdk x++rdk y,wt:=[(d,.d (.int .u8) S.nl)] })
    | none=>none
  | _,_,_=>none
def opCut (P:Program) (S:St A) (d:Nat) (t:TypeId) (x:Operand) (lo hi:Option Operand):Option (Stp A) :=
  match P.underlying t,S.op x with
  | some (.slice e),some (.d (.list c) j)=>bif tyB P e c.sz c.agg&&c.dat false then
      match lo,hi with
      | none,none=>some (.pure [⟨.list c,S.lv (.list c) j⟩] { nt:=rdk x,wt:=[(d,.d (.list c) S.nl)] })
      | some l,none=>match S.anyI l with
        | some ⟨k,a⟩=>some (.chk (A.leL c k a (S.lv (.list c) j)) [⟨.list c,A.cutD c k (S.lv (.list c) j) a⟩] { nt:=rdk x++rdk l,wt:=[(d,.d (.list c) S.nl)] })
        | none=>none
      | none,some h=>match S.anyI h with
        | some ⟨k,a⟩=>some (.chk (A.leL c k a (S.lv (.list c) j)) [⟨.list c,A.cutT c k (S.lv (.list c) j) a⟩] { nt:=rdk x++rdk h,wt:=[(d,.d (.list c) S.nl)] })
        | none=>none
      | some l,some h=>match S.anyI l,S.anyI h with
        | some ⟨k,a⟩,some ⟨k',b⟩ =>
          let xs:=A.cutT c k' (S.lv (.list c) j) b
          some (.chk (A.and (A.leL c k' b (S.lv (.list c) j)) (A.leL c k a xs)) [⟨.list c,A.cutD c k xs a⟩] { nt:=rdk x++(rdk l++rdk h),wt:=[(d,.d (.list c) S.nl)] })
        | _,_=>none
    else none
  | _,_=>none
def opsT (S:St A):List Operand→Option (TV×List Nat)
  | []=>some (.nil,[])
  | x :: xs=>match S.op x,opsT S xs with
    | some y,some (l,nt)=>some (.cons y l,rdk x++nt)
    | _,_=>none
def TV.allOk:TV→Bool
  | .nil=>true
  | .cons a b=>a.sz?.isSome && !a.agg && !a.isL&&b.allOk
  | _=>false
def opMkF (S:St A) (d:Nat) (f:FuncId) (caps:List Operand):Option (Stp A) :=
  match opsT S caps with
  | some (l,nt)=>bif l.allOk&&l.lt S.nl then some (.pure [] { nt,wt:=[(d,.func f l)] }) else none
  | none=>none
end
section
variable {P:Program} {B:Base} {ops:Array Oper} {S:St typ} {ty:TypeId} {pos:String} {af:Array Edge} {d:Nat} {x y:Operand} {t:TypeId}
theorem A2z {v:V} (h1:v.isTop=false) (h2:v ≠ .junk):(match v with | .junk=>false | x => !x.isTop)=true:=by
  cases v<;>first | (exact absurd rfl h2) | rfl | (simp [V.isTop] at h1)
theorem A24 [Hid] {f:Val} (hf:∀ c i,i<S.nl→f c i=S.lv c i) (hS:S.ok) {places:List (Nat×Nat)}:∀ {parts:List (Nat×Operand)} {cur r:TV} {nt':List Nat},partsT S places cur parts=some (r,nt') →
    ∃ vs nt,Opds parts vs nt∧rE S.e nt=rE' nt∧keys nt=nt'∧okParts places (cur.vs f) vs=true∧r.vs f=setParts (cur.vs f) vs
  | [],cur,r,nt',h=>by
    simp only [partsT,Option.some.injEq,Prod.mk.injEq] at h;obtain⟨rfl,rfl⟩:=h;exact⟨[],[],.nil,rfl,rfl,rfl,rfl⟩
  | (i,x) :: ps,cur,r,nt',h=>by
    simp only [partsT] at h;split at h
    · rename_i g y o n o' hg hy hp ho;split at h
      · rename_i a b cur' ha hb hc;cases hq:Nat.beq a b&&Nat.beq o o'&&Nat.beq n a && !g.isL && !y.isL with
        | false=>rw [hq] at h;cases h
        | true =>
          rw [hq,cond_true] at h;simp only [Bool.and_eq_true,Bool.not_eq_true'] at hq;have e1:=Nat.eq_of_beq_eq_true hq.1.1.1.1;have e2:=Nat.eq_of_beq_eq_true hq.1.1.1.2;have e3:=Nat.eq_of_beq_eq_true hq.1.1.2;subst e1 e2 e3;cases hr:partsT S places cur' ps with
          | none=>rw [hr] at h;cases h
          | some q =>
            rw [hr] at h;cases h;obtain⟨vs,nt,k1,k2,k3,k4,k5⟩:=A24 hf hS (parts:=ps) (cur:=cur') (r:=q.1) (nt':=q.2) hr;have hv:y.v f=y.v S.lv:=TV.Y0 hf (M7 hS hy);rw [TV.W2 hc,hv] at k4 k5;refine⟨(i,y.v S.lv) :: vs,on x (y.v S.lv)++nt,.cons (A5 hy).1 k1,B8 (A5 hy).2 k2,by rw [B4,A8,k3],?_,k5⟩;have s1:=TV.sz_v (f:=f) ha hq.1.2;have s2:=TV.sz_v (f:=S.lv) hb hq.2;have s3:=TV.U1 (f:=f) ho;obtain⟨s4,s5⟩:=TV.H5 (f:=S.lv) hb hq.2;simp only [okParts,O6 (f:=f) hg,hp,s1,s2,s3,Nat.beq_refl,s4,A2z s4 s5,k4,Bool.and_self,Bool.not_false]
      · cases h
    · cases h
theorem A5l [Hid] {parts:List (Nat×Operand)} {s:Stp typ} (hN:d<B.N) (hS:S.ok) (h:opBuild P S d t parts=some s):s.Ok P B ops ⟨some d,.build t parts.toArray,ty,pos,af,none⟩ S:=by
  unfold opBuild at h;split at h
  · rename_i fs hu;split at h
    · rename_i places zs lf z hp hz hv;cases hb:zB P t z&&zs.lt (S.nl+lf.length) with
      | false=>rw [hb] at h;cases h
      | true =>
        rw [hb,cond_true] at h;simp only [Bool.and_eq_true] at hb;cases hr:partsT S places zs parts with
        | none=>rw [hr] at h;cases h
        | some r =>
          rw [hr] at h;cases h;obtain⟨vs,nt,k1,k2,k3,k4,k5⟩:=A24 (f:=S.push lf) (fun c i hi=>B5 c i hi) hS (r:=r.1) (nt':=r.2) hr;have e:=zT_v hz (St.hasAt lf);rw [hv] at e;have e:=Option.some.inj e;have hz':TyZ P t (.st (zs.vs (S.push lf))):=by
            have:=T8 hb.1;rw [e] at this;exact this
          exact⟨_,OpJ.build (A5k hu hp) hz' k1 k4 (r:=.st (r.1.vs (S.push lf))) (by rw [k5]) hN,k2,rfl,rfl,rfl,rfl,k3,rfl,rfl⟩
    · cases h
  · cases h
theorem A40 {c:Ty} (hd:c.dat false=true):∀ {l:List c.T} {i:Nat},i≤l.length→V.szL ((l.map fun x=>V.d (c.enc x)).take i)=i*c.sz
  | l,0,_=>by simp [V.szL]
  | [],i+1,h=>by simp at h
  | x :: l,i+1,h=>by
    have:=A40 hd (l:=l) (i:=i) (by simpa using h);simp only [List.map_cons,List.take_succ_cons,V.szL,this];show(c.enc x).sz+i*c.sz=(i+1)*c.sz;rw [Ty.B2 hd,Nat.succ_mul,Nat.add_comm]
theorem S4 [Hid] (hS:S.ok) {c:Ty} (hd:c.dat false=true) {m:Nat}:∀ {parts:List (Nat×Operand)} {l r:List c.T} {nt':List Nat},l.length=m→elemsT S c l parts=some (r,nt') →
    ∃ vs nt,Opds parts vs nt∧rE S.e nt=rE' nt∧keys nt=nt'∧okParts ((List.range m).map fun i=>(i*c.sz,c.sz)) (l.map fun x=>V.d (c.enc x)) vs=true∧(r.map fun x=>V.d (c.enc x))=setParts (l.map fun x=>V.d (c.enc x)) vs∧r.length=m∧∀ p∈parts,p.1<m
  | [],l,r,nt',hl,h=>by
    simp only [elemsT,Option.some.injEq,Prod.mk.injEq] at h;obtain⟨rfl,rfl⟩:=h;exact⟨[],[],.nil,rfl,rfl,rfl,rfl,hl,fun p hp=>by cases hp⟩
  | (i,x) :: ps,l,r,nt',hl,h=>by
    simp only [elemsT] at h;split at h
    · rename_i y hy;split at h
      · rename_i z hz;cases hi:Nat.blt i l.length with
        | false =>
          have h:(bif Nat.blt i l.length then (elemsT S c (l.set i z) ps).map fun r=>(r.1,rdk x++r.2) else none)=some (r,nt'):=h;rw [hi] at h;cases h
        | true =>
          have h:(bif Nat.blt i l.length then (elemsT S c (l.set i z) ps).map fun r=>(r.1,rdk x++r.2) else none)=some (r,nt'):=h;rw [hi,cond_true] at h;have hi:=TV.A7 hi;cases hr:elemsT S c (l.set i z) ps with
          | none=>rw [hr] at h;cases h
          | some q =>
            rw [hr] at h;cases h;obtain⟨vs,nt,k1,k2,k3,k4,k5,k6,k7⟩:=S4 hS hd (m:=m) (parts:=ps) (l:=l.set i z) (r:=q.1) (nt':=q.2) (by rw [List.length_set];exact hl) hr;have hco:=K4 hz hd;rw [V7] at k4 k5;refine⟨(i,.d (c.enc z)) :: vs,on x (y.v S.lv)++nt,.cons (Opd.co hco (A5 hy).1) k1,B8 (A5 hy).2 k2,by rw [B4,A8,k3],?_,k5,k6,fun p hp => ?_⟩
            · have g:(l.map fun x=>V.d (c.enc x))[i]? = some (V.d (c.enc l[i])):=by simp [List.getElem?_eq_getElem hi]
              have g2:((List.range m).map fun i=>(i*c.sz,c.sz))[i]? = some (i*c.sz,c.sz):=by simp [List.getElem?_range (show i<m by omega)]
              have s1:(V.d (c.enc l[i])).sz=c.sz:=Ty.B2 hd _;have s2:(V.d (c.enc z)).sz=c.sz:=Ty.B2 hd _;have s3:=A40 hd (l:=l) (i:=i) (by omega);simp only [okParts,g,g2,s1,s2,s3,Nat.beq_refl,V.isTop,k4,Bool.and_self,Bool.not_false]
            · rcases List.mem_cons.1 hp with rfl | hp
              · show i<m;omega
              · exact k7 p hp
      · cases h
    · cases h
theorem A0f {c:Ty} (hd:c.dat false=true):∀ l:List c.T,D.szs c.sz (l.map c.enc)=true
  | []=>rfl
  | x :: l=>by simp only [List.map_cons,D.szs,Ty.B2 hd,Nat.beq_refl,A0f hd l,Bool.and_self]
theorem Y3 {c:Ty} (l:List c.T):(l.map c.enc).map V.d=l.map fun x=>V.d (c.enc x):=by simp
theorem Y4 {c:Ty} (m:Nat) (z:c.T):List.replicate m (V.d (c.enc z))=(List.replicate m z).map fun x=>V.d (c.enc x):=by simp
theorem A41 [Hid] {m:Nat} {parts:List (Nat×Operand)} {s:Stp typ} (hN:d<B.N) (hS:S.ok) (h:opSlice0 P S d t m parts=some s):s.Ok P B ops ⟨some d,.buildSlice t m parts.toArray,ty,pos,af,none⟩ S:=by
  unfold opSlice0 at h;split at h
  · rename_i e hu;split at h
    · rename_i c hc;cases hb:c.dat false&&tyB P e c.sz c.agg&&zB P e (.d (c.enc c.zero))&&Nat.blt 0 c.sz&&Nat.ble (m*c.sz) 16777216 with
      | false=>rw [hb] at h;cases h
      | true =>
        rw [hb,cond_true] at h;simp only [Bool.and_eq_true] at hb;cases hr:elemsT S c (List.replicate m (typ.zero c)) parts with
        | none=>rw [hr] at h;cases h
        | some r =>
          rw [hr] at h;cases h;have hd:=hb.1.1.1.1;obtain⟨vs,nt,k1,k2,k3,k4,k5,k6,k7⟩:=S4 hS hd (m:=m) (r:=r.1) (nt':=r.2) (by simp) hr;rw [← Y4] at k4 k5;rw [← Y3] at k5;exact⟨_,OpJ.buildSlice hu (C5 hb.1.1.1.2) (T8 hb.1.1.2) (Ty.B2 hd _) (TV.A7 hb.1.2) (Nat.le_of_ble_eq_true hb.2) k1 k4 (es:=r.1.map c.enc) k5 (by rw [List.length_map];exact k6) (A0f hd _) k7 hN,k2,rfl,rfl,
            by simp only [eOf,List.map];exact congrArg (fun l:List c.T=>[(d,V.d (.list c.sz (List.map c.enc l)))]) (C3 (c:=.list c)).symm,rfl,k3,rfl,rfl⟩
    · cases h
  · cases h
theorem A8m [Hid] {parts:List (Nat×Operand)} {s:Stp typ} (hN:d<B.N) (hS:S.ok) (h:opArr0 P S d t parts=some s):s.Ok P B ops ⟨some d,.build t parts.toArray,ty,pos,af,none⟩ S:=by
  unfold opArr0 at h;split at h
  · rename_i m e hu;split at h
    · rename_i c hc;cases hb:c.dat false&&tyB P e c.sz c.agg&&zB P t (.d ((Ty.arr m c).enc (Ty.arr m c).zero)) with
      | false=>rw [hb] at h;cases h
      | true =>
        rw [hb,cond_true] at h;simp only [Bool.and_eq_true] at hb;cases hr:elemsT S c (List.replicate m (typ.zero c)) parts with
        | none=>rw [hr] at h;cases h
        | some r =>
          rw [hr] at h;cases h;have hd:=hb.1.1;obtain⟨vs,nt,k1,k2,k3,k4,k5,k6,k7⟩:=S4 hS hd (m:=m) (r:=r.1) (nt':=r.2) (by simp) hr;rw [← Y4] at k4 k5;rw [← Y3] at k5;have hz:TyZ P t (.d (.arr m c.sz (List.replicate m (c.enc c.zero)))):=by
            have:=T8 hb.2;have e:(Ty.arr m c).enc (Ty.arr m c).zero = .arr m c.sz (List.replicate m (c.enc c.zero)):=by
              show D.arr m c.sz (List.map c.enc (List.replicate m c.zero))=_;rw [List.map_replicate]
            rw [e] at this;exact this
          exact⟨_,OpJ.buildArr hu (C5 hb.1.2) hz k1 k4 (es:=r.1.map c.enc) k5 (by rw [List.length_map];exact k6) (A0f hd _) k7 hN,k2,rfl,rfl,
            by simp only [eOf,List.map];exact congrArg (fun l:List c.T=>[(d,V.d (.arr m c.sz (List.map c.enc l)))]) (C3 (c:=.arr m c)).symm,rfl,k3,rfl,rfl⟩
    · cases h
  · cases h
theorem rF1 [Hid] {n:Nat} (h:look S.O n=none):rF S.o [n]=rF' [n]:=by simp only [rF,rF',C7,h,Option.map_none]
theorem A5m [Hid] {s:Stp typ} (hB:B.ok) (hN:d<B.N) (hf:look S.O S.nx=none) (h:opAlloc P S d t=some s):s.Ok P B ops ⟨some d,.alloc t,ty,pos,af,none⟩ S:=by
  unfold opAlloc at h;split at h
  · rename_i x lf z hz hv;cases hb:zB P t z&&Nat.ble 1000 S.nx with
    | false=>rw [hb] at h;cases h
    | true =>
      rw [hb] at h;cases h;simp only [Bool.and_eq_true] at hb;have e:=zT_v hz (St.hasAt lf);rw [hv] at e;have e:=Option.some.inj e;have hz':=T8 hb.1;rw [e] at hz';exact⟨_,OpJ.alloc hB hz' (Nat.le_of_ble_eq_true hb.2) hN,rfl,rfl,rF1 hf,rfl,rfl,rfl,rfl,rfl⟩
  · cases h
theorem B0a [Hid] {s:Stp typ} (hB:B.ok) (hN:d<B.N) (hS:S.ok) (hf:look S.O S.nx=none) (h:opBox S d t x=some s):s.Ok P B ops ⟨some d,.box t x,ty,pos,af,none⟩ S:=by
  unfold opBox at h;split at h
  · rename_i y hy;split at h
    · rename_i m hm;cases hb:Nat.ble 1000 S.nx && !y.isL with
      | false=>rw [hb] at h;cases h
      | true =>
        rw [hb] at h;cases h;simp only [Bool.and_eq_true,Bool.not_eq_true'] at hb;obtain⟨h1,h2⟩:=TV.H5 (f:=S.lv) hm hb.2;exact⟨_,OpJ.box hB (Nat.le_of_ble_eq_true hb.1) h2 h1 hN (A5 hy).1,(A5 hy).2,rfl,rF1 hf,rfl,by simp only [oOf,List.map,Option.map,TOb.o,G2 (M7 hS hy)],A8 _ _,rfl,rfl⟩
    · cases h
  · cases h
theorem B0b [Hid] {s:Stp typ} (hN:d<B.N) (h:opLen P S d t x=some s):s.Ok P B ops ⟨some d,.call { callee:=.builtin .len,args:=#[x],argTypes:=#[t] },ty,pos,af,none⟩ S:=by
  unfold opLen at h;split at h
  · rename_i e hu hx;cases h;exact ok1 hx rfl fun nt hx=>OpJ.lenN hu hN hx
  · rename_i e c j hu hx;cases h;refine ok1 hx B6 fun nt hx => ?_;exact OpJ.val (congrArg (fun n:Nat=>V.d (.int .i64 (n:Int))) (List.length_map ..)) (OpJ.lenD hu hN hx)
  · rename_i e n c j hu hx;split at h
    · rename_i b hn;cases h;exact ok1o hx hn B6 fun nt hx=>OpJ.lenS hu hN hx
    · cases h
  · rename_i tx hu hx;split at h
    · rename_i s' hs;cases h;refine ok1 hx B6 fun nt hx => ?_;rw [I4 hs] at hx;exact OpJ.lenStr hu hN hx
    · cases h
  · cases h
theorem A6y [Hid] {m:Bool} {t t':TypeId} {s:Stp typ} (hN:d<B.N) (h:opMM S d m x y=some s):s.Ok P B ops ⟨some d,.call { callee:=.builtin (if m then .max else .min),args:=#[x,y],argTypes:=#[t,t'] },ty,pos,af,none⟩ S:=by
  unfold opMM at h;split at h
  · rename_i k a k' b hx hy;split at h
    · rename_i hk;subst hk;obtain⟨tx,e1,e2⟩:=B9 hx;obtain⟨ty',e3,e4⟩:=B9 hy;cases h;refine ok2 e1 e3 B6 fun nt nt' hx hy => ?_;rw [e2] at hx;rw [e4] at hy;cases m
      · exact OpJ.min hN hx hy
      · exact OpJ.max hN hx hy
    · cases h
  · cases h
theorem A8n [Hid] {s:Stp typ} (hN:d<B.N) (h:opSidx P S d t x y=some s):s.Ok P B ops ⟨some d,.index t x y,ty,pos,af,none⟩ S:=by
  unfold opSidx at h;split at h
  · rename_i tx k a hu hx hy;obtain⟨ty',e3,e4⟩:=B9 hy;split at h
    · rename_i s' hs;cases h;intro q hq;obtain⟨c,hc,hq⟩:=bindS (show(idx s' a).bind (fun c=>some (c.toNat:Int))=some q from hq);cases hq;refine ok2 hx e3 B6 fun nt nt' hx hy => ?_;rw [I4 hs] at hx;rw [e4] at hy;exact OpJ.indexStr hu (I0 hc).1 (I0 hc).2 hN hx hy
    · cases h
  · cases h
end
end Go.Vc
namespace Go.Vc
open Go
section
variable {P:Program} {B:Base} {ops:Array Oper} {S:St typ} {ty:TypeId} {pos:String} {af:Array Edge} {d:Nat} {x y:Operand} {t:TypeId}
theorem L1 [Hid] {c:Ty} {z:(Ty.list c).T} {l:List (Lf typ)} {n:Nat}:(TV.sref n c S.nl).v (S.push (⟨.list c,z⟩ :: l)) = .sref n c.sz 0 (List.length (show List c.T from z)):=by
  have e:S.push (⟨.list c,z⟩ :: l) (.list c) S.nl=z:=C3;exact congrArg (fun l:List c.T=>V.sref n c.sz 0 l.length) e
theorem I8 [Hid] {c:Ty} {z:(Ty.list c).T} {l:List (Lf typ)} {e:TypeId}:(TOb.row e c S.nl).o (S.push (⟨.list c,z⟩ :: l)) = .row e c.sz (List.map c.enc z) :=
  congrArg (fun l:List c.T=>Ob.row e c.sz (l.map c.enc)) (C3 (c:=.list c))
theorem E6 {a b:Bool} (h:Bool.and a b=true):a=true∧b=true:=by rw [← Bool.and_eq_true];exact h
theorem B0c [Hid] {s:Stp typ} (hB:B.ok) (hN:d<B.N) (hS:S.ok) (hf:look S.O S.nx=none) (h:opApp P S d t x y=some s):s.Ok P B ops ⟨some d,.call { callee:=.builtin .append,args:=#[x,y],argTypes:=#[t,t] },ty,pos,af,none⟩ S:=by
  unfold opApp at h;split at h
  · rename_i e tx ty' hu hx hy;split at h
    · rename_i c hc;cases hb:tyEB P e c.sz (bytesOf P e)&&Nat.ble (bytesOf P e) 32768&&Nat.ble 1000 S.nx&&c.dat false with
      | false=>rw [hb] at h;cases h
      | true =>
        rw [hb,cond_true] at h;simp only [Bool.and_eq_true] at hb;have hd:=hb.2;have hE:=L4 hb.1.1.1;have h1000:=Nat.le_of_ble_eq_true hb.1.2;split at h
        · rename_i n c' j ys hys;split at h
          · rename_i e' c2 i hn;cases hq:Nat.beq e' e&&decide (c'=c)&&decide (c2=c) with
            | false=>rw [hq] at h;cases h
            | true =>
              rw [hq,cond_true] at h;simp only [Bool.and_eq_true,decide_eq_true_eq] at hq;obtain⟨⟨he,rfl⟩,rfl⟩:=hq;have he:=Nat.eq_of_beq_eq_true he;subst he;cases h;intro hb';have hL:(decide (List.length (List.append (S.lv (.list c2) i) ys)≤LIM))=true∧List.length (S.lv (.list c2) j)=List.length (S.lv (.list c2) i):=by
                cases hij:Nat.beq i j with
                | true =>
                  rw [hij] at hb';have:=Nat.eq_of_beq_eq_true hij;subst this;exact⟨hb',rfl⟩
                | false =>
                  rw [hij] at hb';obtain⟨h1,h2⟩:=E6 hb';exact⟨h2,of_decide_eq_true h1⟩
              have hco:=K4 hys (show(Ty.list c2).dat false=true from hd);have hy2:=Opd.co hco (A5 hy).1;have hx2:=(A5 hx).1;refine⟨_,OpJ.append hB hu hE h1000 (n:=n) (es:=List.map c2.enc (S.lv (.list c2) i)) (ys:=List.map c2.enc ys) (es':=List.map c2.enc (List.append (S.lv (.list c2) i) ys)) (len:=List.length (List.append (S.lv (.list c2) i) ys)) (List.map_append ..) (List.length_map ..).symm ?_ ?_ ?_ hN (l0:=List.length (S.lv (.list c2) j)) ?_ hx2 hy2,B8 (A5 hx).2 (A5 hy).2,?_,rF1 hf,?_,?_,by rw [B4,A8,A8],rfl,rfl⟩
              · intro z hz;obtain⟨w,_,rfl⟩:=List.mem_map.1 hz;exact Ty.B2 hd _
              · rw [List.length_map];exact N8 hL.1 hb.1.1.2
              · rw [List.length_map];exact A0d hL.1
              · rw [List.length_map];exact hL.2
              · simp only [rO,rO',C7,hn,Option.map_some];rfl
              · simp only [eOf,List.map,L1]
              · simp only [oOf,List.map,Option.map,I8]
          · cases h
        · rename_i ys hys;cases h;intro hL;have hco:=K4 hys (show(Ty.list c).dat false=true from hd);have hy2:=Opd.co hco (A5 hy).1;have hx2:=(A5 hx).1;refine⟨_,OpJ.appendN hB hu hE h1000 (ys:=List.map c.enc ys) (len:=List.length ys) (List.length_map ..).symm ?_ ?_ ?_ hN hx2 hy2,B8 (A5 hx).2 (A5 hy).2,rfl,rF1 hf,?_,?_,by rw [B4,A8,A8],rfl,rfl⟩
          · intro z hz;obtain⟨w,_,rfl⟩:=List.mem_map.1 hz;exact Ty.B2 hd _
          · rw [List.length_map];exact N8 hL hb.1.1.2
          · rw [List.length_map];exact A0d hL
          · simp only [eOf,List.map,L1]
          · simp only [oOf,List.map,Option.map,I8]
        · cases h
    · cases h
  · cases h
theorem A8o [Hid] {s:Stp typ} (hB:B.ok) (hN:d<B.N) (hf:look S.O S.nx=none) (h:opMake P S d t x y=some s):s.Ok P B ops ⟨some d,.makeSlice t x y,ty,pos,af,none⟩ S:=by
  unfold opMake at h;split at h
  · rename_i e k a k' b hu hx hy;obtain⟨tx,e1,e2⟩:=B9 hx;obtain⟨ty',e3,e4⟩:=B9 hy;split at h
    · rename_i c hc;cases hb:tyEB P e c.sz (bytesOf P e)&&Nat.ble (bytesOf P e) 65536&&Nat.ble 1000 S.nx&&c.dat false&&zB P e (.d (c.enc c.zero)) with
      | false=>rw [hb] at h;cases h
      | true =>
        rw [hb,cond_true] at h;simp only [Bool.and_eq_true] at hb;split at h
        · rename_i hk;subst hk;cases h;intro hq;obtain⟨h1,h2⟩:=E6 hq;obtain⟨h3,h4⟩:=E6 h1;have h2:fitIT b=true:=h2;simp only [fitIT,Bool.and_eq_true,decide_eq_true_eq] at h2;have h3:=of_decide_eq_true (show ge0T a=true from h3);have h4:=of_decide_eq_true (show cmpT .leq a b=true from h4);have hx2:=(A5 e1).1;have hy2:=(A5 e3).1;rw [e2] at hx2;rw [e4] at hy2;refine⟨_,OpJ.make hB hu (L4 hb.1.1.1.1) (T8 hb.2) (Ty.B2 hb.1.2 _) (Nat.le_of_ble_eq_true hb.1.1.2) h3 h4 (B2d h2.2 hb.1.1.1.2) (B4f h2.2) hN (es:=List.map c.enc (List.replicate (Int.toNat a) c.zero)) (by rw [List.map_replicate]) (List.length_map ..).symm hx2 hy2,B8 (e2 ▸ (A5 e1).2) (e4 ▸ (A5 e3).2),rfl,rF1 hf,?_,?_,by rw [B4,A8,A8],rfl,rfl⟩
          · simp only [eOf,List.map,L1]
          · simp only [oOf,List.map,Option.map,I8]
        · cases h
    · cases h
  · cases h
theorem M0 {a:Int} {n:Nat} (h:leT a n=true):0≤a∧a.toNat≤n:=by
  simp only [leT,Bool.and_eq_true,decide_eq_true_eq] at h;exact h
theorem B0d [Hid] {lo hi:Option Operand} {s:Stp typ} (hN:d<B.N) (h:opCut P S d t x lo hi=some s):s.Ok P B ops ⟨some d,.slice t x lo hi none,ty,pos,af,none⟩ S:=by
  unfold opCut at h;split at h
  · rename_i e c j hu hx;cases hb:tyB P e c.sz c.agg&&c.dat false with
    | false=>rw [hb] at h;cases h
    | true =>
      rw [hb,cond_true] at h;simp only [Bool.and_eq_true] at hb;have hx2:=(A5 hx).1;have fin:∀ {zs:List c.T} {lo hi:Option Operand} {l hh:Nat} {nl nh:EL} {kl kh:List Nat},
          (lo=none∧l=0∧nl=[]∨∃ o k n,lo=some o∧Opd o (.d (.int k n)) nl∧0≤n∧l=n.toNat)→(hi=none∧hh=(List.map c.enc (S.lv (.list c) j)).length∧nh=[]∨∃ o k n,hi=some o∧Opd o (.d (.int k n)) nh∧0≤n∧hh=n.toNat) →
          l≤hh→hh≤List.length (S.lv (.list c) j)→zs=List.drop l (List.take hh (S.lv (.list c) j))→rE S.e nl=rE' nl→rE S.e nh=rE' nh→keys nl=kl→keys nh=kh →
          OkO P B ops ⟨some d,.slice t x lo hi none,ty,pos,af,none⟩ S [⟨.list c,zs⟩] { nt:=rdk x++(kl++kh),wt:=[(d,.d (.list c) S.nl)] }:=fun {zs lo hi l hh nl nh kl kh} h1 h2 h3 h4 h5 h6 h7 h8 h9 =>
        ⟨_,OpJ.cutD hu (C5 hb.1) (es:=List.map c.enc (S.lv (.list c) j)) (es':=List.map c.enc zs) h1 h2 h3 (by rw [List.length_map];exact h4) (by rw [h5,List.map_drop,List.map_take]) hN hx2,B8 (A5 hx).2 (B8 h6 h7),rfl,rfl,by simp only [eOf,List.map,B6];rfl,rfl,by rw [B4,B4,A8,h8,h9],rfl,rfl⟩
      have len:(List.map c.enc (S.lv (.list c) j)).length=List.length (S.lv (.list c) j):=List.length_map ..;split at h
      · cases h;have:=fin (zs:=S.lv (.list c) j) (l:=0) (hh:=List.length (S.lv (.list c) j)) (.inl ⟨rfl,rfl,rfl⟩) (.inl ⟨rfl,len.symm,rfl⟩) (Nat.zero_le _) (Nat.le_refl _) (by rw [List.take_length];rfl) rfl rfl rfl rfl;simpa [keys,Stp.Ok] using this
      · rename_i l;split at h
        · rename_i k a hl;obtain⟨tx,e1,e2⟩:=B9 hl;cases h;intro hq;obtain⟨g1,g2⟩:=M0 hq;have:=fin (zs:=List.drop (Int.toNat a) (S.lv (.list c) j)) (l:=Int.toNat a) (hh:=List.length (S.lv (.list c) j)) (.inr ⟨l,k,a,rfl,e2 ▸ (A5 e1).1,g1,rfl⟩) (.inl ⟨rfl,len.symm,rfl⟩) g2 (Nat.le_refl _) (by rw [List.take_length]) (A5 e1).2 rfl (A8 _ _) rfl;simpa [keys,Stp.Ok] using this
        · cases h
      · rename_i hh;split at h
        · rename_i k a hl;obtain⟨tx,e1,e2⟩:=B9 hl;cases h;intro hq;obtain⟨g1,g2⟩:=M0 hq;have:=fin (zs:=List.take (Int.toNat a) (S.lv (.list c) j)) (l:=0) (hh:=Int.toNat a) (.inl ⟨rfl,rfl,rfl⟩) (.inr ⟨hh,k,a,rfl,e2 ▸ (A5 e1).1,g1,rfl⟩) (Nat.zero_le _) g2 rfl rfl (A5 e1).2 rfl (A8 _ _);simpa [keys,Stp.Ok] using this
        · cases h
      · rename_i l hh;split at h
        · rename_i k a k' b hl hh';obtain⟨tx,e1,e2⟩:=B9 hl;obtain⟨tx',e3,e4⟩:=B9 hh';cases h;intro hq;obtain⟨q1,q2⟩:=E6 hq;obtain⟨g1,g2⟩:=M0 q1;obtain⟨g3,g4⟩:=M0 q2;have g4:Int.toNat a≤(List.take (Int.toNat b) (S.lv (.list c) j)).length:=g4;rw [List.length_take] at g4;exact fin (l:=Int.toNat a) (hh:=Int.toNat b) (.inr ⟨l,k,a,rfl,e2 ▸ (A5 e1).1,g3,rfl⟩) (.inr ⟨hh,k',b,rfl,e4 ▸ (A5 e3).1,g1,rfl⟩) (by omega) g2 rfl (A5 e1).2 (A5 e3).2 (A8 _ _) (A8 _ _)
        · cases h
  · cases h
theorem A6z [Hid]:∀ {xs:List Operand} {l:TV} {nt':List Nat},opsT S xs=some (l,nt')→∃ nt,OpdL xs (l.vs S.lv) nt∧rE S.e nt=rE' nt∧keys nt=nt'
  | [],l,nt',h=>by
    simp only [opsT,Option.some.injEq,Prod.mk.injEq] at h;obtain⟨rfl,rfl⟩:=h;exact⟨[],.nil,rfl,rfl⟩
  | x :: xs,l,nt',h=>by
    simp only [opsT] at h;split at h
    · rename_i y l' nt hy hl;cases h;obtain⟨nt2,k1,k2,k3⟩:=A6z hl;exact⟨_,.cons (A5 hy).1 k1,B8 (A5 hy).2 k2,by rw [B4,A8,k3]⟩
    · cases h
theorem A42 [Hid] {f:Val}:∀ {l:TV},l.allOk=true→(l.vs f).all (fun v => !v.isAgg&&(match v with | .junk=>false | _=>true))=true∧(l.vs f).all noTupB=true
  | .nil,_=>⟨rfl,rfl⟩
  | .cons a b,h=>by
    simp only [TV.allOk,Bool.and_eq_true,Bool.not_eq_true'] at h;obtain⟨h1,h2⟩:=A42 (f:=f) (l:=b) h.2;cases hs:a.sz? with
    | none=>rw [hs] at h;simp at h
    | some m =>
      have ha:=TV.T7 (f:=f) h.1.2 (by rw [hs];simp);obtain⟨h3,h4⟩:=TV.H5 (f:=f) hs h.1.2;have e:(TV.cons a b).vs f=a.v f :: b.vs f:=rfl;rw [e,List.all_cons,List.all_cons,h1,h2];refine⟨?_,by simp [noTupB,h3]⟩;rw [ha,h.1.1.2];generalize a.v f=v at h4;cases v<;>first | rfl | exact absurd rfl h4
  | .junk,h | .undef,h | .d _ _,h | .kb _,h | .ki _ _,h | .ks _,h | .nils,h | .cst _,h | .ptr _ _ _,h | .eptr ..,h | .aptr ..,h | .dptr _ _,h | .sref _ _ _,h | .qref _ _,h | .qptr _ _ _,h | .func _ _,h | .st _,h | .tup _,h | .opt _ _ _,h | .mref _,h=>by simp [TV.allOk] at h
theorem B0e [Hid] {f:FuncId} {caps:List Operand} {s:Stp typ} (hN:d<B.N) (hS:S.ok) (h:opMkF S d f caps=some s):s.Ok P B ops ⟨some d,.makeFunc (.func f) #[] caps.toArray,ty,pos,af,none⟩ S:=by
  unfold opMkF at h;split at h
  · rename_i l nt hl;cases hb:l.allOk&&l.lt S.nl with
    | false=>rw [hb] at h;cases h
    | true =>
      rw [hb] at h;cases h;simp only [Bool.and_eq_true] at hb;obtain⟨nt2,k1,k2,k3⟩:=A6z hl;obtain⟨h1,h2⟩:=A42 (f:=S.lv) hb.1;exact⟨_,OpJ.makeF k1 h1 h2 hN,k2,rfl,rfl,by
        have:=G2 (S:=S) (lf:=[]) (x:=.func f l) hb.2;simp only [eOf,List.map,this];rfl,rfl,k3,rfl,rfl⟩
  · cases h
end
end Go.Vc
namespace Go.Vc
open Go
variable {P:Program} {B:Base} {ops:Array Oper}
section
variable {d:Nat} {x y:Operand} {ty:TypeId} {pos:String} {af:Array Edge} {nt nt':List (Nat×V)}

def bstr (xs:List Int):List UInt8:=xs.map fun n=>UInt8.ofNat n.toNat

theorem A43 {Z:Nat→Prop} {w:World}:∀ (xs:List Int) (b o:Nat),D.repE Z w 1 (xs.map (eI .u8)) b o→∀ i,i<xs.length→w.cell? ⟨b,o+i,none⟩=some (.int .u8 (xs.getD i 0))
  | [],_,_,_,i,hi=>by simp at hi
  | x :: xs,b,o,h,i,hi=>by
    obtain⟨⟨cs,h1,h2⟩,h3⟩:=h;cases i with
    | zero =>
      have hc:cs=[.int .u8 x]:=h2;subst hc;simpa using h1 0 _ rfl
    | succ i =>
      have:=A43 xs b (o+1) h3 i (by simpa using hi);rw [show o+(i+1)=o+1+i from by omega];simpa using this

theorem OpJ.bytesStr {src dst e:TypeId} {xs:List Int} (hs:P.underlying src=some (.slice e)) (he:P.underlying e=some (.int .u8)) (hd:P.underlying dst=some .string) (hN:d<B.N) (hx:Opd x (.d (.list 1 (xs.map (eI .u8)))) nt) :
    OpJ P B ops ⟨some d,.convert src dst x,ty,pos,af,none⟩ { nt,wt:=[(d,.d (.str (bstr xs)))] } :=
  OpJ.pure rfl rfl hN fun env ob a w σ Z s h=>by
    obtain⟨ad,c,hv,h1,h2,h3⟩:=I6 (hx B env ob a w σ Z s h);refine⟨.string ⟨(bstr xs).toArray⟩,?_,Q0 _⟩;have hrun:(convert src dst (.slice ad (xs.map (eI .u8)).length c)).run P w = .ok (.string ⟨(bstr xs).toArray⟩) w:=by
      rw [List.length_map];rcases h3 with h3 | ⟨b,o,ha,hz,hsz,hre⟩
      · have:xs=[]:=by simpa using h3
        subst this;cases ad with
        | none=>exact run_convert_bytes_nil w src e hs he 0 c dst hd
        | some q =>
          rw [List.length_nil,run_convert_bytes_string w src dst e (some q) 0 c hs he hd,run_bytesToString w q 0 c [] (by simp [loadCells,loadCellsFrom])];rfl
      · subst ha;exact run_convert_bytes_arg w src e hs he b o xs.length c xs rfl (A43 xs b o hre) dst hd
    simp only [execOp,hv,hrun,Sem.run_bind,Result.andThen_ok,Sem.run_pure]

theorem A0x (a:List UInt8):(⟨a.toArray⟩:ByteArray).toList=a:=by rw [ByteArray.toList_eq]
theorem OpJ.eqlS {xt yt:TypeId} {a b:List UInt8} (hN:d<B.N) (hx:Opd x (.d (.str a)) nt) (hy:Opd y (.d (.str b)) nt') :
    OpJ P B ops ⟨some d,.binOp .eql xt x y yt,ty,pos,af,none⟩ { nt:=nt++nt',wt:=[(d,.d (.bool (a==b)))] } :=
  OpJ.pure rfl rfl hN fun env ob c w σ Z s hn=>by
    obtain⟨h1,h2⟩:=A4 hn;have e1:=H6 (hx B env ob c w σ Z s h1);have e2:=H6 (hy B env ob c w σ Z s h2);have g:(eqGuard .eql xt x y (.string ⟨a.toArray⟩) (.string ⟨b.toArray⟩)).run P w = .ok () w:=by simp [eqGuard]
    exact⟨.bool (a==b),by simp [execOp,e1,e2,binOp,g,Op.stringOp,A0x],D8 _⟩
theorem OpJ.neqS {xt yt:TypeId} {a b:List UInt8} (hN:d<B.N) (hx:Opd x (.d (.str a)) nt) (hy:Opd y (.d (.str b)) nt') :
    OpJ P B ops ⟨some d,.binOp .neq xt x y yt,ty,pos,af,none⟩ { nt:=nt++nt',wt:=[(d,.d (.bool (a != b)))] } :=
  OpJ.pure rfl rfl hN fun env ob c w σ Z s hn=>by
    obtain⟨h1,h2⟩:=A4 hn;have e1:=H6 (hx B env ob c w σ Z s h1);have e2:=H6 (hy B env ob c w σ Z s h2);have g:(eqGuard .neq xt x y (.string ⟨a.toArray⟩) (.string ⟨b.toArray⟩)).run P w = .ok () w:=by simp [eqGuard]
    exact⟨.bool (a != b),by simp [execOp,e1,e2,binOp,g,Op.stringOp,A0x,bne],D8 _⟩

end
end Go.Vc
namespace Go.Vc
open Go
section
variable {P:Program} {B:Base} {ops:Array Oper} {d:Nat} {x y:Operand} {xt yt ty:TypeId} {pos:String} {af:Array Edge} {nt nt' nl nh:List (Nat×V)}
theorem B2j (a b:List UInt8):(⟨a.toArray⟩:ByteArray)++⟨b.toArray⟩=⟨(a++b).toArray⟩:=by
  rw [ByteArray.ext_iff,ByteArray.data_append];simp
theorem OpJ.catS {a b:List UInt8} (hl:(a++b).length≤LIM) (hN:d<B.N) (hx:Opd x (.d (.str a)) nt) (hy:Opd y (.d (.str b)) nt') :
    OpJ P B ops ⟨some d,.binOp .add xt x y yt,ty,pos,af,none⟩ { nt:=nt++nt',wt:=[(d,.d (.str (a++b)))] } :=
  OpJ.pure rfl rfl hN fun env ob c w σ Z s hn=>by
    obtain⟨h1,h2⟩:=A4 hn;have e1:=H6 (hx B env ob c w σ Z s h1);have e2:=H6 (hy B env ob c w σ Z s h2);have g:(eqGuard .add xt x y (.string ⟨a.toArray⟩) (.string ⟨b.toArray⟩)).run P w = .ok () w:=by simp [eqGuard]
    have hs:¬ (((⟨a.toArray⟩:ByteArray).size+(⟨b.toArray⟩:ByteArray).size:Nat):Int) > IntKind.i64.max:=by
      have e:IntKind.i64.max=9223372036854775807:=rfl;have e2:(⟨a.toArray⟩:ByteArray).size+(⟨b.toArray⟩:ByteArray).size=(a++b).length:=by simp [ByteArray.size]
      rw [e,e2];simp only [LIM] at hl;omega
    refine⟨.string ⟨(a++b).toArray⟩,?_,Q0 _⟩;simp only [execOp,e1,e2,binOp,Sem.run_bind,g,Result.andThen_ok,Op.stringOp];rw [if_neg hs,Sem.run_pure,B2j];simp only [Result.andThen_ok,Sem.run_pure]
theorem M8 (s:List UInt8) (l h:Nat):(⟨s.toArray⟩:ByteArray).extract l h=⟨((s.take h).drop l).toArray⟩:=by
  rw [ByteArray.ext_iff,ByteArray.data_extract];apply Array.toList_inj.1;simp [List.extract,List.drop_take]
theorem B0f (w:World) (t:TypeId) (hu:P.underlying t=some .string) (s:List UInt8) (lo hi:Option Value) (l h:Nat)
    (hlo:lo=none∧l=0∨∃ k n,lo=some (.int k n)∧0≤n∧l=n.toNat) (hhi:hi=none∧h=s.length∨∃ k n,hi=some (.int k n)∧0≤n∧h=n.toNat) (h1:l≤h) (h2:h≤s.length) :
    (Instr.sliceAt t (.string ⟨s.toArray⟩) lo hi none).run P w = .ok (.string ⟨((s.take h).drop l).toArray⟩) w:=by
  have hb:∀ (n:Int) (k:IntKind) (y:Nat) (code:BoundsCode),0≤n→n.toNat≤y→(Instr.sliceBound (.int k n) y code).run P w = .ok n.toNat w:=by
    intro n k y code h0 hy;have:n≤(y:Int):=by omega
    simp [Instr.sliceBound,asIntOf,h0,this]
  have hsz:(⟨s.toArray⟩:ByteArray).size=s.length:=by simp [ByteArray.size]
  rcases hlo with ⟨rfl,rfl⟩ | ⟨k,n,rfl,hn,rfl⟩
  · rcases hhi with ⟨rfl,rfl⟩ | ⟨k',n',rfl,hn',rfl⟩
    · simp [Instr.sliceAt,Instr.slice,run_underlying hu,Instr.sliceBounds,hsz,M8]
    · have e2:=hb n' k' s.length .sliceAlen hn' h2;simp [Instr.sliceAt,Instr.slice,run_underlying hu,Instr.sliceBounds,hsz,e2,M8]
  · rcases hhi with ⟨rfl,rfl⟩ | ⟨k',n',rfl,hn',rfl⟩
    · have e1:=hb n k s.length .sliceB hn h1;simp [Instr.sliceAt,Instr.slice,run_underlying hu,Instr.sliceBounds,hsz,e1,M8]
    · have e1:=hb n k n'.toNat .sliceB hn h1;have e2:=hb n' k' s.length .sliceAlen hn' h2;simp [Instr.sliceAt,Instr.slice,run_underlying hu,Instr.sliceBounds,hsz,e1,e2,M8]
theorem OpJ.cutStr {t:TypeId} (hu:P.underlying t=some .string) {s s':List UInt8} {lo hi:Option Operand} {l h:Nat}
    (hlo:(lo=none∧l=0∧nl=[])∨∃ o k n,lo=some o∧Opd o (.d (.int k n)) nl∧0≤n∧l=n.toNat) (hhi:(hi=none∧h=s.length∧nh=[])∨∃ o k n,hi=some o∧Opd o (.d (.int k n)) nh∧0≤n∧h=n.toNat)
    (h1:l≤h) (h2:h≤s.length) (hs:s'=(s.take h).drop l) (hN:d<B.N) (hx:Opd x (.d (.str s)) nt) :
    OpJ P B ops ⟨some d,.slice t x lo hi none,ty,pos,af,none⟩ { nt:=nt++(nl++nh),wt:=[(d,.d (.str s'))] } :=
  OpJ.pure rfl rfl hN fun env ob a w σ Z sm hne=>by
    obtain⟨g1,g23⟩:=A4 hne;obtain⟨g2,g3⟩:=A4 g23;have hv:=H6 (hx B env ob a w σ Z sm g1);have hr:=B0f (P:=P) w t hu s (lo.map a.eval) (hi.map a.eval) l h
      (by
        rcases hlo with ⟨rfl,h0,_⟩ | ⟨o,k,n,rfl,ho,hn,hl⟩
        · exact .inl ⟨rfl,h0⟩
        · exact .inr ⟨k,n,by simp [B7 (ho B env ob a w σ Z sm g2)],hn,hl⟩)
      (by
        rcases hhi with ⟨rfl,h0,_⟩ | ⟨o,k,n,rfl,ho,hn,hl⟩
        · exact .inl ⟨rfl,h0⟩
        · exact .inr ⟨k,n,by simp [B7 (ho B env ob a w σ Z sm g3)],hn,hl⟩)
      h1 h2
    refine⟨.string ⟨s'.toArray⟩,?_,Q0 _⟩;simp only [execOp,hv,Sem.run_bind,Option.map_none,hr,Result.andThen_ok,hs];rfl
theorem Sim.strBytes {env:Env} {ob:Obs} {a:Act} {w:World} {σ:Nat→Option Nat} {Z:Nat→Prop} (sm:Sim B env ob a w σ Z) (o:Obj):Sim B env ob a (w.drew.alloc o) σ (fun b=>Z b∨b=w.heap.size):=sm.drew.allocZ o
theorem u8cells (s:List UInt8) {Z:Nat→Prop} {w:World}:D.repL Z w ((s2bT s).map (eI .u8)) (s.map fun b=>Value.int .u8 b.toNat):=by
  induction s with
  | nil=>rfl
  | cons b s ih=>exact⟨[.int .u8 b.toNat],_,rfl,rfl,ih⟩
theorem OpJ.strBytes {src dst e:TypeId} {s:List UInt8} (hs:P.underlying src=some .string) (hd:P.underlying dst=some (.slice e)) (he:P.underlying e=some (.int .u8)) (hl:s.length≤LIM) (hN:d<B.N) (hx:Opd x (.d (.str s)) nt) :
    OpJ P B ops ⟨some d,.convert src dst x,ty,pos,af,none⟩ { nt,wt:=[(d,.d (.list 1 ((s2bT s).map (eI .u8))))] } :=
  OpJ.run rfl rfl hN rfl fun env ob a w σ Z sm hne=>by
    have hv:=H6 (hx B env ob a w σ Z sm hne.1);have hr:=run_bytes_of_string (P:=P) w src dst e ⟨s.toArray⟩ hs hd he;have hsz:(⟨s.toArray⟩:ByteArray).size=s.length:=by simp [ByteArray.size]
    rw [hsz] at hr;have hge:=grownCap_ge w s.length 0 e;have hle:=grownCap_le_maxLen w s.length 0 e (by simp only [LIM] at hl;simp only [maxLen];omega);generalize hC:bytesRow ⟨s.toArray⟩ (grownCap w s.length 0 e)=C at hr;generalize hK:grownCap w s.length 0 e=cap at hr hge hle hC;have s1:=sm.strBytes (.cells C e (C.size,C.size+1));have hel:((s2bT s).map (eI .u8)).length=s.length:=by simp [s2bT]
    refine⟨.slice (some ⟨w.heap.size,0,none⟩) s.length cap,_,σ,_,?_,by rw [B1 _ rfl];exact s1,?_⟩
    · simp only [execOp,hv,Sem.run_bind,hr,Result.andThen_ok,Sem.run_pure]
    · rw [B1 _ rfl];have hat:cellsAt (w.drew.alloc (.cells C e (C.size,C.size+1))) w.heap.size 0 (s.map fun b=>Value.int .u8 b.toNat):=fun j v hj=>by
        rw [Nat.zero_add];have:=World.cell?_alloc_mark w.drew C e (C.size,C.size+1) j;have hz:w.drew.heap.size=w.heap.size:=rfl;rw [hz] at this;rw [this,← hC];have hlt:=(List.getElem?_eq_some_iff.1 hj).1;rw [bytesRow,Array.getElem?_append_left (by simpa using hlt)];simpa using hj
      refine⟨⟨some ⟨w.heap.size,0,none⟩,cap,by rw [hel],by omega,by simp only [maxLen] at hle;omega,.inr ⟨w.heap.size,0,rfl,.inr rfl,fun q hq => ?_,D.repE_of_repL _ _ _ _ (u8cells s) (fun q hq => ?_) hat⟩⟩,.inr rfl⟩
      all_goals
        obtain⟨n,_,rfl⟩:=List.mem_map.1 hq;rfl
end

def eqF (h:TypeId→Ty→Bool) (P:Program):Nat→List Field→Ty→Bool
  | _,[],.nil=>true
  | o,[f],c=>(f.name != "_")&&Nat.beq f.offset o&&tyB P f.type c.sz c.agg&&c.dat false&&h f.type c
  | o,f :: fs,.pr a b=>(f.name != "_")&&Nat.beq f.offset o&&tyB P f.type a.sz a.agg&&a.dat false&&h f.type a&&eqF h P (o+a.sz) fs b
  | _,_,_=>false
def eqB (P:Program):Nat→TypeId→Ty→Bool
  | 0,_,_=>false
  | n+1,t,c=>match c,P.underlying t with
    | .bool,some .bool=>true
    | .int _,some (.int _)=>true
    | .str,some .string=>true
    | .st b,some (.struct fs) => !P.stoodInHeld t&&eqF (eqB P n) P 0 fs.toList b
    | .arr m e,some (.array m' et)=>Nat.beq m m'&&tyB P et e.sz e.agg&&e.dat false&&(P.info? et).isSome&&eqB P n et e
    | _,_=>false
section
variable {P:Program}
def EqRun (P:Program) (n:Nat) (t:TypeId) (c:Ty):Prop:=∀ (d:Nat),n≤d→∀ (w w1 w2:World) (Z Z':Nat→Prop) (x y:c.T) (cx cy:List Value),D.rep Z w1 (c.enc x) cx→D.rep Z' w2 (c.enc y) cy →
  (Op.equalIn d t (valOf c.agg cx) (valOf c.agg cy)).run P w = .ok (c.eqT x y) w
theorem B2k {n:Nat} {h:TypeId→Ty→Bool} (hh:∀ t c,h t c=true→EqRun P n t c):∀ {fs:List Field} {c:Ty} {o:Nat},eqF h P o fs c=true→∀ {d:Nat},n≤d→∀ {w w1 w2:World} {Z Z':Nat→Prop} {x y:c.T} {px py cx cy:List Value},
    px.length=o→py.length=o→D.repL Z w1 (c.encs x) cx→D.repL Z' w2 (c.encs y) cy→(Op.eqFields d (px++cx).toArray (py++cy).toArray fs).run P w = .ok (c.eqT x y) w:=by
  have one:∀ {f:Field} {c:Ty} {o:Nat},((f.name != "_")&&Nat.beq f.offset o&&tyB P f.type c.sz c.agg&&c.dat false&&h f.type c)=true→∀ {d:Nat},n≤d→∀ {w w1 w2:World} {Z Z':Nat→Prop} {x y:c.T} {px py c1 c2 e1 e2:List Value},
      px.length=o→py.length=o→D.rep Z w1 (c.enc x) c1→D.rep Z' w2 (c.enc y) e1→∀ fs,(Op.eqFields d (px++(c1++c2)).toArray (py++(e1++e2)).toArray (f :: fs)).run P w =
        (if c.eqT x y=true then (Op.eqFields d (px++(c1++c2)).toArray (py++(e1++e2)).toArray fs).run P w else .ok false w):=by
    intro f c o hf d hd w w1 w2 Z Z' x y px py c1 c2 e1 e2 hpx hpy r1 r2 fs;simp only [Bool.and_eq_true,bne_iff_ne,ne_eq] at hf;obtain⟨⟨⟨⟨f1,f2⟩,f3⟩,f4⟩,f5⟩:=hf;have f2:=Nat.eq_of_beq_eq_true f2;have ht:=C5 f3;have l1:=D.rep_len _ _ r1;have l2:=D.rep_len _ _ r2;rw [Ty.B2 f4] at l1 l2;have s1:c.agg=false→c.sz=1:=fun e=>by
      rw [← Ty.B2 f4 x];exact D.sz_one (by rw [Ty.H7 f4,e])
    have p1:=D7 ht w px c1 c2 l1 s1 (hpx.trans f2.symm);have p2:=D7 ht w py e1 e2 l2 s1 (hpy.trans f2.symm);have pe:=hh _ _ f5 d hd w w1 w2 Z Z' x y c1 e1 r1 r2;rw [List.append_assoc] at p1 p2;simp only [Op.eqFields,f1,ne_eq,not_false_eq_true,if_true,Sem.run_bind,p1,p2,pe,Result.andThen_ok];cases c.eqT x y<;>simp
  intro fs;induction fs with
  | nil =>
    intro c o hf d hd w w1 w2 Z Z' x y px py cx cy _ _ _ _;cases c<;>simp [eqF] at hf;simp [Op.eqFields,Ty.eqT]
  | cons f fs ih =>
    intro c o hf d hd w w1 w2 Z Z' x y px py cx cy hpx hpy rx ry;cases fs with
    | nil =>
      have hf:((f.name != "_")&&Nat.beq f.offset o&&tyB P f.type c.sz c.agg&&c.dat false&&h f.type c)=true:=by
        cases c<;>exact hf
      have hdat:c.dat false=true:=by simp only [Bool.and_eq_true] at hf;exact hf.1.2
      rw [Ty.C0 hdat] at rx ry;obtain⟨c1,c2,rfl,r1,r2⟩:=rx;obtain⟨e1,e2,rfl,g1,g2⟩:=ry;rw [one hf hd hpx hpy r1 g1 []];cases hq:c.eqT x y<;>simp [Op.eqFields]
    | cons f2 fs =>
      cases c with
      | pr a b =>
        have hf:((f.name != "_")&&Nat.beq f.offset o&&tyB P f.type a.sz a.agg&&a.dat false&&h f.type a&&eqF h P (o+a.sz) (f2 :: fs) b)=true:=hf;rw [Bool.and_eq_true] at hf;obtain⟨hf1,hf2⟩:=hf;have hdat:a.dat false=true:=by simp only [Bool.and_eq_true] at hf1;exact hf1.1.2
        have ex:(Ty.pr a b).encs x=a.enc x.1 :: b.encs x.2:=by show a.encs x.1++b.encs x.2=_;rw [Ty.C0 hdat];rfl
        have ey:(Ty.pr a b).encs y=a.enc y.1 :: b.encs y.2:=by show a.encs y.1++b.encs y.2=_;rw [Ty.C0 hdat];rfl
        rw [ex] at rx;rw [ey] at ry;obtain⟨c1,c2,rfl,r1,r2⟩:=rx;obtain⟨e1,e2,rfl,g1,g2⟩:=ry;have l1:=D.rep_len _ _ r1;have l2:=D.rep_len _ _ g1;rw [Ty.B2 hdat] at l1 l2;rw [one hf1 hd hpx hpy r1 g1 (f2 :: fs)];have:=ih (c:=b) hf2 hd (w:=w) (px:=px++c1) (py:=py++e1) (by rw [List.length_append];omega) (by rw [List.length_append];omega) r2 g2;rw [List.append_assoc,List.append_assoc] at this;rw [this];show(if a.eqT x.1 y.1=true then _ else _)=Result.ok (a.eqT x.1 y.1&&b.eqT x.2 y.2) w;cases a.eqT x.1 y.1<;>simp
      | _=>simp [eqF] at hf
theorem A04 {n:Nat} {et:TypeId} {e:Ty} (he:EqRun P n et e) (ht:TyS P et e.sz e.agg) (hd:e.dat false=true) {d:Nat} (hn:n≤d) {w w1 w2:World} {Z Z':Nat→Prop}:∀ (xs ys:List e.T) (px py cx cy:List Value) (k:Nat),xs.length=ys.length→px.length=k*e.sz→py.length=k*e.sz →
    D.repL Z w1 (xs.map e.enc) cx→D.repL Z' w2 (ys.map e.enc) cy→(Op.eqItems d et e.sz (px++cx).toArray (py++cy).toArray ((List.range' k xs.length))).run P w = .ok (Ty.eqL e.eqT xs ys) w
  | [],[],px,py,cx,cy,k,_,_,_,_,_=>by simp [Op.eqItems,Ty.eqL]
  | x :: xs,y :: ys,px,py,cx,cy,k,hl,hpx,hpy,rx,ry=>by
    obtain⟨c1,c2,rfl,r1,r2⟩:=rx;obtain⟨e1,e2,rfl,g1,g2⟩:=ry;have l1:=D.rep_len _ _ r1;have l2:=D.rep_len _ _ g1;rw [Ty.B2 hd] at l1 l2;have s1:e.agg=false→e.sz=1:=fun q=>by
      rw [← Ty.B2 hd x];exact D.sz_one (by rw [Ty.H7 hd,q])
    have p1:=D7 ht w px c1 c2 l1 s1 hpx;have p2:=D7 ht w py e1 e2 l2 s1 hpy;have pe:=he d hn w w1 w2 Z Z' x y c1 e1 r1 g1;have ih:=A04 he ht hd hn (w:=w) xs ys (px++c1) (py++e1) c2 e2 (k+1) (by simpa using hl) (by rw [List.length_append,l1,hpx,Nat.succ_mul]) (by rw [List.length_append,l2,hpy,Nat.succ_mul]) r2 g2;rw [List.append_assoc,List.append_assoc] at ih;rw [List.append_assoc] at p1 p2;rw [List.length_cons,List.range'_succ];simp only [Op.eqItems,Sem.run_bind,p1,p2,pe,Result.andThen_ok];cases hq:e.eqT x y<;>simp [Ty.eqL,hq,ih]
  | [],_ :: _,_,_,_,_,_,h,_,_,_,_ | _ :: _,[],_,_,_,_,_,h,_,_,_,_=>by simp at h
theorem A0g:∀ (n:Nat) (t:TypeId) (c:Ty),eqB P n t c=true→EqRun P n t c
  | 0,_,_,h=>by simp [eqB] at h
  | n+1,t,c,h=>by
    intro d hd w w1 w2 Z Z' x y cx cy rx ry;obtain⟨d,rfl⟩:∃ e,d=e+1:=⟨d-1,by omega⟩;unfold eqB at h;split at h
    · rename_i hu;exact(FitE.bool (P:=P) (h:=n) x y hu).run (w:=w) (Z:=Z) (Z':=Z') (d:=d+1) (by omega) rx ry
    · rename_i hu;exact(FitE.int (P:=P) (h:=n) x y hu).run (w:=w) (Z:=Z) (Z':=Z') (d:=d+1) (by omega) rx ry
    · rename_i hu;exact(FitE.str (P:=P) (h:=n) x y hu).run (w:=w) (Z:=Z) (Z':=Z') (d:=d+1) (by omega) rx ry
    · rename_i b fs hu;simp only [Bool.and_eq_true,Bool.not_eq_true'] at h;have hfs:P.fieldsOf t=fs:=by simp [Program.fieldsOf,hu]
      simp only [valOf,Ty.agg,if_true];rw [run_equalIn_struct w d t cx.toArray cy.toArray (by rw [hfs];exact hu) h.1,hfs];have:=B2k (P:=P) (n:=n) (h:=eqB P n) (fun t c=>A0g n t c) h.2 (d:=d) (by omega) (w:=w) (px:=[]) (py:=[]) rfl rfl rx ry;exact this
    · rename_i m e m' et hu;simp only [Bool.and_eq_true] at h;obtain⟨⟨⟨⟨h1,h2⟩,h3⟩,h4⟩,h5⟩:=h;have h1:=Nat.eq_of_beq_eq_true h1;subst h1;obtain⟨i,hi⟩:=Option.isSome_iff_exists.1 h4;have ht:=C5 h2;have hc:P.cellsOf et=e.sz:=by
        have:=ht.1;rw [hi] at this;simp only [Program.cellsOf,hi];simpa using this
      simp only [valOf,Ty.agg,if_true];rw [run_equalIn_array (P:=P) (w:=w) d cx.toArray cy.toArray hu hi,hc];obtain⟨q1,_,q3⟩:(List.map e.enc (show List e.T from x)).length=m∧_∧_:=rx;obtain⟨q4,_,q6⟩:(List.map e.enc (show List e.T from y)).length=m∧_∧_:=ry;rw [List.length_map] at q1 q4;have:=A04 (P:=P) (A0g n et e h5) ht h3 (d:=d) (by omega) (w:=w) x y [] [] cx cy 0 (by rw [q1,q4]) (by simp) (by simp) q3 q6;rw [List.nil_append,List.nil_append,q1] at this;rw [List.range_eq_range'];exact this
    · cases h
end
section
variable {P:Program} {B:Base} {ops:Array Oper} {S:St typ} {d:Nat} {x y:Operand} {xt yt ty:TypeId} {pos:String} {af:Array Edge}
theorem OpJ.eqT {n:Nat} {c:Ty} {a b:c.T} {nt nt':EL} (hf:eqB P n xt c=true) (hn:Nat.ble n 10000=true) (hd:c.dat false=true) (hg:P.eqGuardType P.depth xt=false) (hag:c.agg=true) (neg:Bool) (hN:d<B.N) (hx:Opd x (.d (c.enc a)) nt) (hy:Opd y (.d (c.enc b)) nt') :
    OpJ P B ops ⟨some d,.binOp (if neg then .neq else .eql) xt x y yt,ty,pos,af,none⟩ { nt:=nt++nt',wt:=[(d,.d (.bool (if neg then !(c.eqT a b) else c.eqT a b)))] } :=
  OpJ.pure rfl rfl hN fun env ob s w σ Z sm hne=>by
    obtain⟨h1,h2⟩:=A4 hne;obtain⟨cx,e1,r1⟩:=J5 (hx B env ob s w σ Z sm h1);obtain⟨cy,e2,r2⟩:=J5 (hy B env ob s w σ Z sm h2);have:=A0g n xt c hf 10000 (Nat.le_of_ble_eq_true hn) w w w Z Z a b cx cy r1 r2;rw [Ty.H7 hd,hag] at e1 e2;rw [hag] at this;simp only [valOf,if_true] at this e1 e2;have g:=fun op=>run_eqGuard_agg (P:=P) w op xt x y cx.toArray cy.toArray hg;cases neg with
    | true=>exact⟨.bool (!(c.eqT a b)),by simp [execOp,e1,e2,binOp,Op.equal,Op.maxDepth,this,g],D8 _⟩
    | false=>exact⟨.bool (c.eqT a b),by simp [execOp,e1,e2,binOp,Op.equal,Op.maxDepth,this,g],D8 _⟩
end
section
variable {A:Alg}
def opStr (S:St A) (d:Nat) (op:BinOp) (x y:Operand):Option (Stp A) :=
  match S.op x,S.op y with
  | some tx,some ty=>match S.exact .str tx,S.exact .str ty with
    | some a,some b=>match op with
      | .eql=>some (S.leaf1 d (rdk x++rdk y) [] .bool (A.eq .str a b))
      | .neq=>some (S.leaf1 d (rdk x++rdk y) [] .bool (A.not (A.eq .str a b)))
      | .add=>some (.chk (A.fitS (A.cat a b)) [⟨.str,A.cat a b⟩] { nt:=rdk x++rdk y,wt:=[(d,.d .str S.nl)] })
      | _=>none
    | _,_=>none
  | _,_=>none
def opEqT (P:Program) (S:St A) (d:Nat) (op:BinOp) (xt:TypeId) (x y:Operand):Option (Stp A) :=
  match codeT P 12 xt,S.op x,S.op y with
  | some c,some tx,some ty=>match S.asD tx c,S.asD ty c with
    | some a,some b=>bif c.agg&&c.dat false&&eqB P 12 xt c && !P.eqGuardType P.depth xt && !tx.isL && !ty.isL then match op with
      | .eql=>some (S.leaf1 d (rdk x++rdk y) [] .bool (A.eq c a b))
      | .neq=>some (S.leaf1 d (rdk x++rdk y) [] .bool (A.not (A.eq c a b)))
      | _=>none
      else none
    | _,_=>none
  | _,_,_=>none
def opCutS (P:Program) (S:St A) (d:Nat) (t:TypeId) (x:Operand) (lo hi:Option Operand):Option (Stp A) :=
  match P.underlying t,S.op x with
  | some .string,some tx=>match S.exact .str tx with
    | some s=>match lo,hi with
      | none,none=>some (.pure [⟨.str,s⟩] { nt:=rdk x,wt:=[(d,.d .str S.nl)] })
      | some l,none=>match S.anyI l with
        | some ⟨k,a⟩=>some (.chk (A.leS k a s) [⟨.str,A.scutD k s a⟩] { nt:=rdk x++rdk l,wt:=[(d,.d .str S.nl)] })
        | none=>none
      | none,some h=>match S.anyI h with
        | some ⟨k,a⟩=>some (.chk (A.leS k a s) [⟨.str,A.scutT k s a⟩] { nt:=rdk x++rdk h,wt:=[(d,.d .str S.nl)] })
        | none=>none
      | some l,some h=>match S.anyI l,S.anyI h with
        | some ⟨k,a⟩,some ⟨k',b⟩=>some (.chk (A.and (A.leS k' b s) (A.leS k a (A.scutT k' s b))) [⟨.str,A.scutD k (A.scutT k' s b) a⟩] { nt:=rdk x++(rdk l++rdk h),wt:=[(d,.d .str S.nl)] })
        | _,_=>none
    | none=>none
  | _,_=>none
def opConvS (P:Program) (S:St A) (d:Nat) (src dst:TypeId) (x:Operand):Option (Stp A) :=
  match P.underlying src,P.underlying dst,S.op x with
  | some (.slice e),some .string,some tx=>match P.underlying e,S.asD tx (.list (.int .u8)) with
    | some (.int .u8),some l=>some (S.leaf1 d (rdk x) [] .str (A.b2s l))
    | _,_=>none
  | some .string,some (.slice e),some tx=>match P.underlying e,S.exact .str tx with
    | some (.int .u8),some s=>some (.chk (A.fitS s) [⟨.list (.int .u8),A.s2b s⟩] { nt:=rdk x,wt:=[(d,.d (.list (.int .u8)) S.nl)] })
    | _,_=>none
  | _,_,_=>none
end
section
variable {P:Program} {B:Base} {ops:Array Oper} {S:St typ} {d:Nat} {x y:Operand} {xt yt ty t:TypeId} {pos:String} {af:Array Edge}
theorem B0g [Hid] {op:BinOp} {s:Stp typ} (hN:d<B.N) (h:opStr S d op x y=some s):s.Ok P B ops ⟨some d,.binOp op xt x y yt,ty,pos,af,none⟩ S:=by
  unfold opStr at h;split at h
  · rename_i tx ty' hx hy;split at h
    · rename_i a b ha hb;have e1:=I4 ha;have e2:=I4 hb;split at h
      · cases h;refine ok2 hx hy B6 fun nt nt' hx hy => ?_;rw [e1] at hx;rw [e2] at hy;exact OpJ.eqlS hN hx hy
      · cases h;refine ok2 hx hy B6 fun nt nt' hx hy => ?_;rw [e1] at hx;rw [e2] at hy;exact OpJ.neqS hN hx hy
      · cases h;intro hl;refine ok2 hx hy B6 fun nt nt' hx hy => ?_;rw [e1] at hx;rw [e2] at hy;exact OpJ.catS (of_decide_eq_true hl) hN hx hy
      · cases h
    · cases h
  · cases h
theorem B0h [Hid] {op:BinOp} {s:Stp typ} (hN:d<B.N) (h:opEqT P S d op xt x y=some s):s.Ok P B ops ⟨some d,.binOp op xt x y yt,ty,pos,af,none⟩ S:=by
  unfold opEqT at h;split at h
  · rename_i c tx ty' hc hx hy;split at h
    · rename_i a b ha hb;cases hq:c.agg&&c.dat false&&eqB P 12 xt c && !P.eqGuardType P.depth xt && !tx.isL && !ty'.isL with
      | false=>rw [hq] at h;cases h
      | true =>
        rw [hq,cond_true] at h;simp only [Bool.and_eq_true,Bool.not_eq_true'] at hq;obtain⟨⟨⟨⟨⟨q1,q2⟩,q3⟩,q4⟩,q5⟩,q6⟩:=hq;have e1:=K4 ha q2;have e2:=K4 hb q2;split at h
        · cases h;refine ok2 hx hy B6 fun nt nt' hx hy => ?_;exact OpJ.eqT (neg:=false) q3 rfl q2 q4 q1 hN (Opd.co e1 hx) (Opd.co e2 hy)
        · cases h;refine ok2 hx hy B6 fun nt nt' hx hy => ?_;exact OpJ.eqT (neg:=true) q3 rfl q2 q4 q1 hN (Opd.co e1 hx) (Opd.co e2 hy)
        · cases h
    · cases h
  · cases h
theorem A8p [Hid] {lo hi:Option Operand} {s:Stp typ} (hN:d<B.N) (h:opCutS P S d t x lo hi=some s):s.Ok P B ops ⟨some d,.slice t x lo hi none,ty,pos,af,none⟩ S:=by
  unfold opCutS at h;split at h
  · rename_i tx hu hx;split at h
    · rename_i z hz;have e:=I4 hz;have hx2:=(A5 hx).1;rw [e] at hx2;have hx3:=(A5 hx).2;rw [e] at hx3;have fin:∀ {zs:List UInt8} {l hh:Nat} {nl nh:EL} {kl kh:List Nat},
          (lo=none∧l=0∧nl=[]∨∃ o k n,lo=some o∧Opd o (.d (.int k n)) nl∧0≤n∧l=n.toNat)→(hi=none∧hh=List.length (show List UInt8 from z)∧nh=[]∨∃ o k n,hi=some o∧Opd o (.d (.int k n)) nh∧0≤n∧hh=n.toNat) →
          l≤hh→hh≤List.length (show List UInt8 from z)→zs=List.drop l (List.take hh z)→rE S.e nl=rE' nl→rE S.e nh=rE' nh→keys nl=kl→keys nh=kh →
          OkO P B ops ⟨some d,.slice t x lo hi none,ty,pos,af,none⟩ S [⟨.str,zs⟩] { nt:=rdk x++(kl++kh),wt:=[(d,.d .str S.nl)] }:=fun {zs l hh nl nh kl kh} h1 h2 h3 h4 h5 h6 h7 h8 h9 =>
        ⟨_,OpJ.cutStr hu h1 h2 h3 h4 h5 hN hx2,B8 hx3 (B8 h6 h7),rfl,rfl,by simp only [eOf,List.map,B6];rfl,rfl,by rw [B4,B4,A8,h8,h9],rfl,rfl⟩
      split at h
      · cases h;have:=fin (zs:=z) (l:=0) (hh:=List.length (show List UInt8 from z)) (.inl ⟨rfl,rfl,rfl⟩) (.inl ⟨rfl,rfl,rfl⟩) (Nat.zero_le _) (Nat.le_refl _) (by rw [List.take_length];rfl) rfl rfl rfl rfl;simpa [keys,Stp.Ok] using this
      · rename_i l;split at h
        · rename_i k a hl;obtain⟨tx,e1,e2⟩:=B9 hl;cases h;intro hq;obtain⟨g1,g2⟩:=M0 hq;have:=fin (zs:=List.drop (Int.toNat a) z) (l:=Int.toNat a) (hh:=List.length (show List UInt8 from z)) (.inr ⟨l,k,a,rfl,e2 ▸ (A5 e1).1,g1,rfl⟩) (.inl ⟨rfl,rfl,rfl⟩) g2 (Nat.le_refl _) (by rw [List.take_length]) (A5 e1).2 rfl (A8 _ _) rfl;simpa [keys,Stp.Ok] using this
        · cases h
      · rename_i hh;split at h
        · rename_i k a hl;obtain⟨tx,e1,e2⟩:=B9 hl;cases h;intro hq;obtain⟨g1,g2⟩:=M0 hq;have:=fin (zs:=List.take (Int.toNat a) z) (l:=0) (hh:=Int.toNat a) (.inl ⟨rfl,rfl,rfl⟩) (.inr ⟨hh,k,a,rfl,e2 ▸ (A5 e1).1,g1,rfl⟩) (Nat.zero_le _) g2 rfl rfl (A5 e1).2 rfl (A8 _ _);simpa [keys,Stp.Ok] using this
        · cases h
      · rename_i l hh;split at h
        · rename_i k a k' b hl hh';obtain⟨tx,e1,e2⟩:=B9 hl;obtain⟨tx',e3,e4⟩:=B9 hh';cases h;intro hq;obtain⟨q1,q2⟩:=E6 hq;obtain⟨g1,g2⟩:=M0 q1;obtain⟨g3,g4⟩:=M0 q2;have g4:Int.toNat a≤(List.take (Int.toNat b) (show List UInt8 from z)).length:=g4;rw [List.length_take] at g4;exact fin (l:=Int.toNat a) (hh:=Int.toNat b) (.inr ⟨l,k,a,rfl,e2 ▸ (A5 e1).1,g3,rfl⟩) (.inr ⟨hh,k',b,rfl,e4 ▸ (A5 e3).1,g1,rfl⟩) (by omega) g2 rfl (A5 e1).2 (A5 e3).2 (A8 _ _) (A8 _ _)
        · cases h
    · cases h
  · cases h
theorem A5n [Hid] {src dst:TypeId} {s:Stp typ} (hN:d<B.N) (h:opConvS P S d src dst x=some s):s.Ok P B ops ⟨some d,.convert src dst x,ty,pos,af,none⟩ S:=by
  unfold opConvS at h;split at h
  · rename_i e tx hs hd hx;split at h
    · rename_i l he hl;cases h;refine ok1 hx B6 fun nt hx => ?_;have hx:=Opd.co (K4 hl rfl) hx;exact OpJ.bytesStr (xs:=l) hs he hd hN hx
    · cases h
  · rename_i e tx hs hd hx;split at h
    · rename_i s' he hz;cases h;intro hq;refine ok1 hx B6 fun nt hx => ?_;rw [I4 hz] at hx;exact OpJ.strBytes hs hd he (of_decide_eq_true hq) hN hx
    · cases h
  · cases h
end
end Go.Vc
namespace Go.Vc
open Go Go.Lib
theorem M9 {P:Program} (w:World) (base:Nat) (t u ty e:TypeId) (i:TypeInfo) (ht:P.underlying t=some (.slice e)) (hu:P.underlying u=some .string) (hi:P.info? e=some i) (hz:i.zero=some (.int .u8 0))
    (hsize:i.size=1) (hby:i.bytes=1)
    (v:Value) (n:Nat) (xs:List Value) (hown:w.ownsRow base e 1 v n xs) (s:ByteArray)
    (h63:n+s.size≤maxLen) (hbytes:n+s.size≤140737488355328) (hbase:base≤w.heap.size) :
    ∃ v' w',(Builtin.append_ #[t,u] ty #[v,.string s]).run P w = .ok v' w'∧w'.ownsRow base e 1 v' (n+s.size) (xs++strCells s)∧w.grownBy w' v.ownBlock ∧
      (v'.ownBlock=v.ownBlock∨v'.ownBlock=some w.heap.size):=by
  have hsmall:n+s.size≤9223372036854775807:=by simp only [maxLen] at h63;omega
  have hxl:xs.length=n:=by simpa using hown.1
  have hlen:(xs++strCells s).length=(n+s.size)*1:=by rw [List.length_append,hxl,strCells_length,Nat.mul_one]
  obtain⟨v',w',hr,h1,h2,h3⟩:=run_append_own_string w base t u ty e i ht hu hi hz hsize hby v n xs hown s h63 hbytes hbase;refine⟨v',w',hr,h1,h2,?_⟩;rcases hown.2 with ⟨rfl,rfl⟩ | ⟨g,cap,cur,rfl,hbg,hg,hnc,hcm,hcs,htake⟩
  · by_cases hm:s.size=0
    · exact .inl (by rw [h3.2 ⟨rfl,hm⟩])
    · have hr2:=run_append_nil_string (P:=P) w t u ty e i (.int .u8 0) ht hu hi hz s (by omega) (by omega) (by rw [hby];omega);rw [hr2] at hr;cases hr;exact .inr rfl
  · by_cases hroom:n+s.size≤cap
    · have hcs':cur.size=cap:=by simpa using hcs
      have hr2:=run_append_room_string (P:=P) w t u ty e i ht hu hi hsize g n cap cur hg s hroom (by omega);rw [hr2] at hr;cases hr;exact .inl rfl
    · have holds:∀ j u,xs[j]? = some u→w.cell? ((⟨g,0,none⟩:Addr).add j)=some u:=hown.cells (g:=g) rfl;have hr2:=run_append_grow_string (P:=P) w t u ty e i (.int .u8 0) ht hu hi hz ⟨g,0,none⟩ n cap xs (by rw [hsize];simpa using hxl) holds s (by omega) (by omega) (by rw [hby];exact growslice_fits (by omega) (by omega));rw [hr2] at hr;cases hr;exact .inr rfl
section
variable {P:Program} {B:Base} {ops:Array Oper} {d:Nat} {x y i:Operand} {ty:TypeId} {pos:String} {af:Array Edge} {nt nt' nl nh:List (Nat×V)}
theorem A05 (s:List UInt8):strCells ⟨s.toArray⟩=s.map fun b=>Value.int .u8 b.toNat:=by simp [strCells]
theorem OpJ.appendStr {t u e:Nat} (hB:B.ok) (ht:P.underlying t=some (.slice e)) (hu:P.underlying u=some .string) (he:TyE P e 1 1) (hz8:∀ i,P.info? e=some i→i.zero=some (.int .u8 0)) {n nm:Nat} (hnm:1000≤nm) {es:List D} {s:List UInt8} {len:Nat} (hlen:len=(es++(s2bT s).map (eI .u8)).length)
    (hb:(es++(s2bT s).map (eI .u8)).length≤LIM) (hN:d<B.N) {l0:Nat} (hl0:l0=es.length) (hx:Opd x (.sref n 1 0 l0) nt) (hy:Opd y (.d (.str s)) nt') :
    OpJ P B ops ⟨some d,.call { callee:=.builtin .append,args:=#[x,y],argTypes:=#[t,u] },ty,pos,af,none⟩
      { nt:=nt++nt',no:=[(n,.row e 1 es)],nf:=[nm],wt:=[(d,.sref nm 1 0 len)],wo:=[(nm,some (.row e 1 (es++(s2bT s).map (eI .u8)))),(n,none)] } :=
  OpJ.run rfl rfl hN rfl fun env ob a w σ Z sm hne=>by
    subst hl0;obtain⟨h1,h2⟩:=A4 hne.1;have hob:=hne.2.1 (n,.row e 1 es) (by simp);have hl:live ob n:=⟨_,hob⟩;have hfr:ob nm=none:=hne.2.2 nm (by simp);have hnn:nm≠n:=fun h=>by subst h;exact hl.used hfr
    have hro:=sm.obj n _ hob;obtain⟨xs,hown,hrep,hblk⟩:=Q3 (hx B env ob a w σ Z sm h1) hl hro;have hyv:=H6 (hy B env ob a w σ Z sm h2);obtain⟨ti,z,hi,hz,hs,hby,hzs⟩:=he.get;have hsz:(⟨s.toArray⟩:ByteArray).size=s.length:=by simp [ByteArray.size]
    have hl2:(es++(s2bT s).map (eI .u8)).length=es.length+s.length:=by simp [s2bT]
    rw [hl2] at hb hlen;have hb':es.length+s.length≤4294967296:=hb;obtain⟨v',w',hr,hown',hgr,hat⟩:=M9 (P:=P) w 0 t u ty e ti ht hu hi (hz8 ti hi) hs hby (a.eval x) es.length xs hown ⟨s.toArray⟩ (by rw [hsz];simp only [maxLen];omega) (by rw [hsz];omega) (Nat.zero_le _);rw [hsz,A05] at hown';have hall:D.repL Z w (es++(s2bT s).map (eI .u8)) (xs++s.map fun b=>Value.int .u8 b.toNat):=D.repL_append es _ xs _ hrep (u8cells s);have sk:=sm.kill n;have hlv:∀ m,live (updO ob n none) m→m≠n∧live ob m:=fun m hm=>by
      rw [A6] at hm
      by_cases hmn:m=n
      · rw [if_pos hmn] at hm;simp at hm
      · rw [if_neg hmn] at hm;exact⟨hmn,hm⟩
    have s2:=sk.rowNew sm (V6 ob n) hB (nm:=nm) (by simp [updO,hnn,hfr]) hnm hgr
      (fun m b hm hb e=>(hlv m hm).1 (sm.inj m n b (hlv m hm).2 hl hb (by rw [← hblk,← e])))
      (fun b hb=>⟨n,hl,by rw [← hblk,hb]⟩) hat
      (o:=.row e 1 (es++(s2bT s).map (eI .u8))) fun ob' σ' m hσ=>by
        refine⟨he.pos,?_,v',_,by rw [hl2];exact hown',D.repL_ext m.ext _ _ hall,hσ.symm,fun hn => ?_⟩
        · intro q hq;rcases List.mem_append.1 hq with hq | hq
          · exact hro.2.1 q hq
          · obtain⟨k,_,rfl⟩:=List.mem_map.1 hq;rfl
        · rw [hσ] at hn;rcases hown'.2 with ⟨_,h0⟩ | ⟨g,cap,cur,hv,_⟩
          · exact List.eq_nil_of_length_eq_zero (by omega)
          · rw [hv] at hn;simp [Value.ownBlock] at hn
    rw [Q1 _ rfl];refine⟨v',w',_,Z,?_,s2,?_⟩
    · simp only [execOp,resolve,invoke,builtin,Sem.run_bind,Sem.run_pure,Result.andThen_ok,List.map_toArray,List.map_cons,List.map_nil,hyv,hr]
    · rw [hlen];exact E5 (e:=e) (xs:=xs++s.map fun b=>Value.int .u8 b.toNat) (by rw [A6];simp) hown' (by simp [updS])
theorem OpJ.appendNStr {t u e:Nat} (hB:B.ok) (ht:P.underlying t=some (.slice e)) (hu:P.underlying u=some .string) (he:TyE P e 1 1) (hz8:∀ i,P.info? e=some i→i.zero=some (.int .u8 0)) {nm:Nat} (hnm:1000≤nm) {s:List UInt8} {len:Nat} (hlen:len=s.length)
    (hb:s.length≤LIM) (hN:d<B.N) (hx:Opd x .nils nt) (hy:Opd y (.d (.str s)) nt') :
    OpJ P B ops ⟨some d,.call { callee:=.builtin .append,args:=#[x,y],argTypes:=#[t,u] },ty,pos,af,none⟩
      { nt:=nt++nt',nf:=[nm],wt:=[(d,.sref nm 1 0 len)],wo:=[(nm,some (.row e 1 ((s2bT s).map (eI .u8))))] } :=
  OpJ.run rfl rfl hN rfl fun env ob a w σ Z sm hne=>by
    obtain⟨h1,h2⟩:=A4 hne.1;have hfr:ob nm=none:=hne.2.2 nm (by simp);have hxv:=J1 (hx B env ob a w σ Z sm h1);have hyv:=H6 (hy B env ob a w σ Z sm h2);obtain⟨ti,z,hi,hz,hs,hby,hzs⟩:=he.get;have hsz:(⟨s.toArray⟩:ByteArray).size=s.length:=by simp [ByteArray.size]
    have hb':s.length≤4294967296:=hb;have hown:=World.ownsRow_nil w 0 e 1;obtain⟨v',w',hr,hown',hgr,hat⟩:=M9 (P:=P) w 0 t u ty e ti ht hu hi (hz8 ti hi) hs hby (.slice none 0 0) 0 [] hown ⟨s.toArray⟩ (by rw [hsz];simp only [maxLen];omega) (by rw [hsz];omega) (Nat.zero_le _);rw [hsz,A05,Nat.zero_add,List.nil_append] at hown';have hl2:((s2bT s).map (eI .u8)).length=s.length:=by simp [s2bT]
    have s2:=sm.rowNew0 hB (nm:=nm) hfr hnm hgr hat
      (o:=.row e 1 ((s2bT s).map (eI .u8))) fun ob' σ' m hσ=>by
        refine⟨he.pos,?_,v',_,by rw [hl2];exact hown',u8cells s,hσ.symm,fun hn => ?_⟩
        · intro q hq;obtain⟨k,_,rfl⟩:=List.mem_map.1 hq;rfl
        · rw [hσ] at hn;rcases hown'.2 with ⟨_,h0⟩ | ⟨g,cap,cur,hv,_⟩
          · exact List.eq_nil_of_length_eq_zero (by rw [hl2];omega)
          · rw [hv] at hn;simp [Value.ownBlock] at hn
    rw [C9 _ rfl];refine⟨v',w',_,Z,?_,s2,?_⟩
    · simp only [execOp,resolve,invoke,builtin,Sem.run_bind,Sem.run_pure,Result.andThen_ok,List.map_toArray,List.map_cons,List.map_nil,hxv,hyv,hr]
    · rw [hlen];exact E5 (e:=e) (xs:=s.map fun b=>Value.int .u8 b.toNat) (by rw [A6];simp) hown' (by simp [updS])
theorem OpJ.capN {t e:TypeId} (hu:P.underlying t=some (.slice e)) (hN:d<B.N) (hx:Opd x .nils nt) :
    OpJ P B ops ⟨some d,.call { callee:=.builtin .cap,args:=#[x],argTypes:=#[t] },ty,pos,af,none⟩ { nt,wt:=[(d,.d (.int .i64 0))] } :=
  OpJ.pure rfl rfl hN fun env ob a w σ Z sm hne=>by
    have hv:=J1 (hx B env ob a w σ Z sm hne);exact⟨.int .i64 0,by simp [execOp,resolve,invoke,builtin,hv,Builtin.cap_,run_underlying hu,goInt],F5 _ _⟩
theorem OpJ.cutN {t e:TypeId} {sz:Nat} {ag:Bool} (hu:P.underlying t=some (.slice e)) (ht:TyS P e sz ag) {lo hi:Option Operand} (hlo:lo=none∧nl=[]∨∃ o k,lo=some o∧Opd o (.d (.int k 0)) nl) (hhi:hi=none∧nh=[]∨∃ o k,hi=some o∧Opd o (.d (.int k 0)) nh)
    (hN:d<B.N) (hx:Opd x .nils nt):OpJ P B ops ⟨some d,.slice t x lo hi none,ty,pos,af,none⟩ { nt:=nt++(nl++nh),wt:=[(d,.nils)] } :=
  OpJ.pure rfl rfl hN fun env ob a w σ Z sm hne=>by
    obtain⟨g1,g23⟩:=A4 hne;obtain⟨g2,g3⟩:=A4 g23;have hv:=J1 (hx B env ob a w σ Z sm g1);have hr:=A2r (P:=P) w t e hu ht none 0 0 (Nat.le_refl _) (lo.map a.eval) (hi.map a.eval) 0 0
      (by
        rcases hlo with ⟨rfl,_⟩ | ⟨o,k,rfl,ho⟩
        · exact .inl ⟨rfl,rfl⟩
        · exact .inr ⟨k,0,by simp [B7 (ho B env ob a w σ Z sm g2)],Int.le_refl _,rfl⟩)
      (by
        rcases hhi with ⟨rfl,_⟩ | ⟨o,k,rfl,ho⟩
        · exact .inl ⟨rfl,rfl⟩
        · exact .inr ⟨k,0,by simp [B7 (ho B env ob a w σ Z sm g3)],Int.le_refl _,rfl⟩)
      (Nat.le_refl _) (Nat.le_refl _)
    refine⟨.slice none 0 0,by simp only [execOp,hv,Sem.run_bind,Option.map_none,hr,Result.andThen_ok];rfl,?_⟩;exact Opd.nils B env ob a w σ Z sm (fun _ h=>by cases h)
end
section
variable {A:Alg}
def opSliceR (P:Program) (S:St A) (d:Nat) (t:TypeId) (m:Nat) (parts:List (Nat×Operand)):Option (Stp A) :=
  match P.underlying t with
  | some (.slice e)=>match codeT P 12 e with
    | some c=>bif c.dat false&&tyB P e c.sz c.agg&&zB P e (.d (c.enc c.zero))&&Nat.blt 0 c.sz&&Nat.ble (m*c.sz) 16777216&&Nat.ble 1000 S.nx then
        (elemsT S c (List.replicate m (A.zero c)) parts).map fun r => .pure [⟨.list c,A.lit c r.1⟩] { nt:=r.2,nf:=[S.nx],wt:=[(d,.sref S.nx c S.nl)],wo:=[(S.nx,some (.row e c S.nl))] } else none
    | none=>none
  | _=>none
def zOp (S:St A):Option Operand→Bool
  | none=>true
  | some o=>match S.op o with
    | some (.ki _ n) => @BEq.beq Int _ n 0
    | _=>false
def rdkO:Option Operand→List Nat
  | none=>[]
  | some o=>rdk o
def opCutN (P:Program) (S:St A) (d:Nat) (t:TypeId) (x:Operand) (lo hi:Option Operand):Option (Stp A) :=
  match P.underlying t,S.op x with
  | some (.slice e),some .nils=>match codeT P 12 e with
    | some c=>bif tyB P e c.sz c.agg&&zOp S lo&&zOp S hi then some (.pure [] { nt:=rdk x++(rdkO lo++rdkO hi),wt:=[(d,.nils)] }) else none
    | none=>none
  | some (.slice e),some (.sref n c j)=>match look S.O n,zOp S lo,hi with
    | some (some (.row e' c' i)),true,some h=>match S.anyI h with
      | some ⟨k,a⟩=>bif tyB P e c.sz c.agg&&c.dat false&&decide (c'=c) then
          some (.chk (bif Nat.beq i j then A.leL c k a (S.lv (.list c) i) else A.and (A.sameLen c (S.lv (.list c) j) (S.lv (.list c) i)) (A.leL c k a (S.lv (.list c) i))) [⟨.list c,A.cutT c k (S.lv (.list c) i) a⟩] { nt:=rdk x++(rdkO lo++rdk h),no:=[n],wt:=[(d,.sref n c S.nl)],wo:=[(n,some (.row e' c S.nl))] })
        else none
      | none=>none
    | _,_,_=>none
  | _,_=>none
def u8B (P:Program) (e:TypeId):Bool:=match P.info? e with
  | some i=>(match i.zero with | some (.int .u8 0)=>true | _=>false)
  | none=>false
def opAppS (P:Program) (S:St A) (d:Nat) (t u:TypeId) (x y:Operand):Option (Stp A) :=
  match P.underlying t,P.underlying u,S.op x,S.op y with
  | some (.slice e),some .string,some tx,some ty=>match S.exact .str ty with
    | some s=>bif tyEB P e 1 1&&u8B P e&&Nat.ble 1000 S.nx then
        match tx with
        | .sref n c j=>match look S.O n with
          | some (some (.row e' c2 i))=>bif Nat.beq e' e&&decide (c = .int .u8)&&decide (c2 = .int .u8)&&Nat.beq i j then
              let l:=A.app (.int .u8) (S.lv (.list (.int .u8)) i) (A.s2b s)
              some (.chk (A.fitL (.int .u8) l) [⟨.list (.int .u8),l⟩] { nt:=rdk x++rdk y,no:=[n],nf:=[S.nx],wt:=[(d,.sref S.nx (.int .u8) S.nl)],wo:=[(S.nx,some (.row e (.int .u8) S.nl)),(n,none)] })
            else none
          | _=>none
        | .nils=>some (.chk (A.fitS s) [⟨.list (.int .u8),A.s2b s⟩] { nt:=rdk x++rdk y,nf:=[S.nx],wt:=[(d,.sref S.nx (.int .u8) S.nl)],wo:=[(S.nx,some (.row e (.int .u8) S.nl))] })
        | _=>none
      else none
    | none=>none
  | _,_,_,_=>none
def opCap (P:Program) (S:St A) (d:Nat) (t:TypeId) (x:Operand):Option (Stp A) :=
  match P.underlying t,S.op x with
  | some (.slice _),some .nils=>some (.pure [] { nt:=rdk x,wt:=[(d,.ki .i64 0)] })
  | _,_=>none
end
section
variable {P:Program} {B:Base} {ops:Array Oper} {S:St typ} {d:Nat} {x y:Operand} {ty t:TypeId} {pos:String} {af:Array Edge}
theorem A44 [Hid] {m:Nat} {parts:List (Nat×Operand)} {s:Stp typ} (hB:B.ok) (hN:d<B.N) (hS:S.ok) (hf:look S.O S.nx=none) (h:opSliceR P S d t m parts=some s):s.Ok P B ops ⟨some d,.buildSlice t m parts.toArray,ty,pos,af,none⟩ S:=by
  unfold opSliceR at h;split at h
  · rename_i e hu;split at h
    · rename_i c hc;cases hb:c.dat false&&tyB P e c.sz c.agg&&zB P e (.d (c.enc c.zero))&&Nat.blt 0 c.sz&&Nat.ble (m*c.sz) 16777216&&Nat.ble 1000 S.nx with
      | false=>rw [hb] at h;cases h
      | true =>
        rw [hb,cond_true] at h;simp only [Bool.and_eq_true] at hb;obtain⟨hb,hb1000⟩:=hb;cases hr:elemsT S c (List.replicate m (typ.zero c)) parts with
        | none=>rw [hr] at h;cases h
        | some r =>
          rw [hr] at h;cases h;have hd:=hb.1.1.1.1;obtain⟨vs,nt,k1,k2,k3,k4,k5,k6,k7⟩:=S4 hS hd (m:=m) (r:=r.1) (nt':=r.2) (by simp) hr;rw [← Y4] at k4 k5;rw [← Y3] at k5;exact⟨_,OpJ.buildSliceR hu (C5 hb.1.1.1.2) (T8 hb.1.1.2) (Ty.B2 hd _) (TV.A7 hb.1.2) (Nat.le_of_ble_eq_true hb.2) hB (Nat.le_of_ble_eq_true hb1000) (len:=List.length (show List c.T from r.1)) k6 k1 k4 (es:=r.1.map c.enc) k5 (by rw [List.length_map];exact k6) (A0f hd _) k7 hN,k2,rfl,rF1 hf,
            by simp only [eOf,List.map,L1],by simp only [oOf,List.map,Option.map,I8],k3,rfl,rfl⟩
    · cases h
  · cases h
theorem A5o [Hid] {lo:Option Operand} (h:zOp S lo=true):∃ nl,(lo=none∧nl=[]∨∃ o k,lo=some o∧Opd o (.d (.int k 0)) nl)∧rE S.e nl=rE' nl∧keys nl=rdkO lo:=by
  cases lo with
  | none=>exact⟨[],.inl ⟨rfl,rfl⟩,rfl,rfl⟩
  | some o =>
    unfold zOp at h;split at h
    · rename_i o' e;cases e
    · rename_i o' e;cases e;split at h
      · rename_i k n hn;have h0:=eq_of_beq h;subst h0;exact⟨_,.inr ⟨o,k,rfl,(A5 hn).1⟩,(A5 hn).2,A8 _ _⟩
      · cases h
theorem A8q [Hid] {lo hi:Option Operand} {s:Stp typ} (hN:d<B.N) (hS:S.ok) (h:opCutN P S d t x lo hi=some s):s.Ok P B ops ⟨some d,.slice t x lo hi none,ty,pos,af,none⟩ S:=by
  unfold opCutN at h;split at h
  · rename_i e hu hx;split at h
    · rename_i c hc;cases hb:tyB P e c.sz c.agg&&zOp S lo&&zOp S hi with
      | false=>rw [hb] at h;cases h
      | true =>
        rw [hb,cond_true] at h;simp only [Bool.and_eq_true] at hb;cases h;obtain⟨nl,l1,l2,l3⟩:=A5o hb.1.2;obtain⟨nh,g1,g2,g3⟩:=A5o hb.2;exact⟨_,OpJ.cutN hu (C5 hb.1.1) l1 g1 hN (A5 hx).1,B8 (A5 hx).2 (B8 l2 g2),rfl,rfl,rfl,rfl,by rw [B4,B4,A8,l3,g3],rfl,rfl⟩
    · cases h
  · rename_i e n c j hu hx;split at h
    · rename_i e' c' i hh hn hz;split at h
      · rename_i k a ha;cases hb:tyB P e c.sz c.agg&&c.dat false&&decide (c'=c) with
        | false=>rw [hb] at h;cases h
        | true =>
          rw [hb,cond_true] at h;simp only [Bool.and_eq_true,decide_eq_true_eq] at hb;obtain⟨⟨b1,b2⟩,rfl⟩:=hb;cases h;intro hq;have hq2:leT a (List.length (S.lv (.list c') i))=true∧List.length (S.lv (.list c') j)=List.length (S.lv (.list c') i):=by
            cases hij:Nat.beq i j with
            | true =>
              rw [hij] at hq;have:=Nat.eq_of_beq_eq_true hij;subst this;exact⟨hq,rfl⟩
            | false =>
              rw [hij] at hq;obtain⟨h1,h2⟩:=E6 hq;exact⟨h2,of_decide_eq_true h1⟩
          obtain⟨q1,q2⟩:=M0 hq2.1;have q3:Int.toNat a≤List.length (S.lv (.list c') j):=by rw [hq2.2];exact q2
          obtain⟨tx,e1,e2⟩:=B9 ha;obtain⟨nl,l1,l2,l3⟩:=A5o hz;have hlo:(lo=none∧0=0∧nl=[])∨∃ o k n,lo=some o∧Opd o (.d (.int k n)) nl∧0≤n∧0=n.toNat:=by
            rcases l1 with ⟨p,q⟩ | ⟨o,k,p,q⟩
            · exact .inl ⟨p,rfl,q⟩
            · exact .inr ⟨o,k,0,p,q,Int.le_refl _,rfl⟩
          have len:(List.map c'.enc (S.lv (.list c') i)).length=List.length (S.lv (.list c') i):=List.length_map ..;have lt:(List.take (Int.toNat a) (S.lv (.list c') i)).length=Int.toNat a:=by rw [List.length_take];exact Nat.min_eq_left q2
          refine⟨_,OpJ.shrS (k:=Int.toNat a) (es:=List.map c'.enc (S.lv (.list c') i)) (es':=List.map c'.enc (List.take (Int.toNat a) (S.lv (.list c') i))) (e:=e') (sz:=c'.sz) (OpJ.cutS hu (C5 b1) (obj:=.row e' c'.sz (List.map c'.enc (S.lv (.list c') i))) (l:=0) (h:=Int.toNat a) (off':=0) (len':=Int.toNat a) hlo (.inr ⟨hh,k,a,rfl,e2 ▸ (A5 e1).1,q1,rfl⟩) (Nat.zero_le _) q3 rfl (by omega) hN (A5 hx).1) (by rw [len];exact q2) (List.map_take ..),B8 (A5 hx).2 (B8 l2 (e2 ▸ (A5 e1).2)),?_,rfl,?_,?_,by rw [B4,B4,A8,A8,l3],rfl,rfl⟩
          · simp only [rO,rO',C7,hn,Option.map_some];rfl
          · simp only [eOf,List.map,L1];rw [show List.length (List.take (Int.toNat a) (S.lv (.list c') i))=Int.toNat a from lt]
          · simp only [oOf,List.map,Option.map,I8]
      · cases h
    · cases h
  · cases h
theorem B0i {e:TypeId} (h:u8B P e=true):∀ i,P.info? e=some i→i.zero=some (.int .u8 0):=by
  intro i hi;unfold u8B at h;rw [hi] at h;simp only at h;split at h
  · assumption
  · cases h
theorem A8r [Hid] {u:TypeId} {s:Stp typ} (hB:B.ok) (hN:d<B.N) (hS:S.ok) (hf:look S.O S.nx=none) (h:opAppS P S d t u x y=some s):s.Ok P B ops ⟨some d,.call { callee:=.builtin .append,args:=#[x,y],argTypes:=#[t,u] },ty,pos,af,none⟩ S:=by
  unfold opAppS at h;split at h
  · rename_i e tx ty' ht hu hx hy;split at h
    · rename_i s' hs';cases hb:tyEB P e 1 1&&u8B P e&&Nat.ble 1000 S.nx with
      | false=>rw [hb] at h;cases h
      | true =>
        rw [hb,cond_true] at h;simp only [Bool.and_eq_true] at hb;have hy2:=(A5 hy).1;rw [I4 hs'] at hy2;have hy3:=(A5 hy).2;rw [I4 hs'] at hy3;split at h
        · rename_i n c j;split at h
          · rename_i e' c2 i hn;cases hq:Nat.beq e' e&&decide (c = .int .u8)&&decide (c2 = .int .u8)&&Nat.beq i j with
            | false=>rw [hq] at h;cases h
            | true =>
              rw [hq,cond_true] at h;simp only [Bool.and_eq_true,decide_eq_true_eq] at hq;obtain⟨⟨⟨q1,rfl⟩,rfl⟩,q2⟩:=hq;have q1:=Nat.eq_of_beq_eq_true q1;subst q1;have q2:=Nat.eq_of_beq_eq_true q2;subst q2;cases h;intro hl;have hm:List.map (Ty.int .u8).enc (List.append (S.lv (.list (.int .u8)) i) (s2bT s'))=List.map (Ty.int .u8).enc (S.lv (.list (.int .u8)) i)++(s2bT s').map (eI .u8):=List.map_append ..;have hlen:(List.append (S.lv (.list (.int .u8)) i) (s2bT s')).length=(List.map (Ty.int .u8).enc (S.lv (.list (.int .u8)) i)++(s2bT s').map (eI .u8)).length:=by rw [← hm,List.length_map]
              refine⟨_,OpJ.appendStr hB ht hu (L4 hb.1.1) (B0i hb.1.2) (Nat.le_of_ble_eq_true hb.2) (n:=n) (es:=List.map (Ty.int .u8).enc (S.lv (.list (.int .u8)) i)) hlen (by rw [← hlen];exact of_decide_eq_true hl) hN (List.length_map ..).symm (A5 hx).1 hy2,B8 (A5 hx).2 hy3,?_,rF1 hf,?_,?_,by rw [B4,A8,A8],rfl,rfl⟩
              · simp only [rO,rO',C7,hn,Option.map_some];rfl
              · simp only [eOf,List.map,L1];rfl
              · simp only [oOf,List.map,Option.map,I8];rw [← hm];rfl
          · cases h
        · cases h;intro hl;refine⟨_,OpJ.appendNStr hB ht hu (L4 hb.1.1) (B0i hb.1.2) (Nat.le_of_ble_eq_true hb.2) (len:=List.length (s2bT s')) (by simp [s2bT]) (of_decide_eq_true hl) hN (A5 hx).1 hy2,B8 (A5 hx).2 hy3,rfl,rF1 hf,?_,?_,by rw [B4,A8,A8],rfl,rfl⟩
          · simp only [eOf,List.map,L1];rfl
          · simp only [oOf,List.map,Option.map,I8];rfl
        · cases h
    · cases h
  · cases h
theorem B0j [Hid] {s:Stp typ} (hN:d<B.N) (h:opCap P S d t x=some s):s.Ok P B ops ⟨some d,.call { callee:=.builtin .cap,args:=#[x],argTypes:=#[t] },ty,pos,af,none⟩ S:=by
  unfold opCap at h;split at h
  · rename_i e hu hx;cases h;exact ok1 hx rfl fun nt hx=>OpJ.capN hu hN hx
  · cases h
end
end Go.Vc
namespace Go.Vc
open Go
variable {P:Program} {B:Base} {ops:Array Oper}

section
variable {d:Nat} {x y:Operand} {ty:TypeId} {pos:String} {af:Array Edge} {nt nt':List (Nat×V)}

end

section
variable {d:Nat} {x y:Operand} {ty:TypeId} {pos:String} {af:Array Edge} {nt nt':List (Nat×V)}
end

end Go.Vc
