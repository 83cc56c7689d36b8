/- Part of the proof that 'TopFrames' holds of every input: no condition. -/
import Derived.Test.YtalojkjpjdcibaaGreatDoorXAI
import Derived.Test.YtalojkjpjdcibaaGreatDoorXAE
import Derived.Test.YtalojkjpjdcibaaGreatDoorXAG
namespace Go.Vc
open Go
section
variable {A:Alg}
def nqO (n:Nat):List (Nat×Option TOb)->Bool
 | []=>true
 | (m,o) :: l=>(Nat.beq m n || (match o with | some o=>o.nq | none=>true))&&nqO n l
def jE:List (Nat×TV)->List (Nat×TV)
 | []=>[]
 | (k,x) :: l=>(k,bif x.nq then x else .junk) :: jE l
def T3 {α:Type} (n:Nat):List (Nat×α)->List (Nat×α)
 | []=>[]
 | (m,o) :: l=>bif Nat.beq m n then T3 n l else (m,o) :: T3 n l
def B4z (P:Program) (N:Nat) (S:St A) (o:Oper) (r:Ty) (k:St A->A.M r):Option (A.M r) :=
 match o.guard,o.dst,o.op with
 | none,some d,.slice t x (some y) none none=>match S.op x,P.underlying t,S.anyI y with
  | some (.qref n j),some (.slice e),some ⟨ik,a⟩=>match A1 S.O n with
   | some (some (.qrow e' i))=>bif Nat.beq e e'&&Nat.beq i j&&tyB P e 1 false&&nqO n S.O&&Nat.blt d N then
     some (A.chk r (A.leL tyI ik a (S.lv (.list tyI) j)) (Ra r [⟨.list tyI,A.cutD tyI ik (S.lv (.list tyI) j) a⟩] λlf=>k { E:=(d,.qref n S.nl) :: jE S.E,O:=(n,some (.qrow e S.nl)) :: T3 n S.O,L:=St.pushL S.nl lf S.L,nl:=S.nl+1,nx:=S.nx }))
    else none
   | _=>none
  | _,_,_=>none
 | none,some d,.call { callee:=.builtin .append,args:=⟨[x,y]⟩,argTypes:=⟨[t,t']⟩ }=>match S.op x,S.op y,P.underlying t with
  | some (.qref n j),some (.d (.list (.int .i64)) m),some (.slice e)=>match A1 S.O n with
   | some (some (.qrow e' i))=>bif Nat.beq t t'&&Nat.beq e e'&&Nat.beq i j&&Bl P e 1 (bytesOf P e)&&Nat.ble (bytesOf P e) 32768&&Nat.ble 1000 S.nx&&(A1 S.O S.nx).isNone&&nqO n S.O&&Nat.blt d N then
     let l:=A.app tyI (S.lv (.list tyI) j) (S.lv (.list tyI) m)
     some (A.chk r (A.and (A.cmp .lss .i64 (A.ki .i64 0) (A.len tyI (S.lv (.list tyI) m))) (A.fitL tyI l)) (Ra r [⟨.list tyI,l⟩] λlf=>k { E:=(d,.qref S.nx S.nl) :: jE S.E,O:=(S.nx,some (.qrow e S.nl)) :: (n,none) :: T3 n S.O,L:=St.pushL S.nl lf S.L,nl:=S.nl+1,nx:=S.nx+1 }))
    else none
   | _=>none
  | _,_,_=>none
 | _,_,_=>none
def B04 (P:Program) (Γ:List (Sg A)) (N:Nat) (ops:Array Oper) (ims:List Nat) (r:Ty):List Oper->St A->(St A->A.M r)->A.M r
 | [],S,k=>k S
 | o :: os,S,k=>match B4z P N S o r (λS'=>B04 P Γ N ops ims r os S' k) with
  | some m=>m
  | none=>A38 P Γ N ops S o (match o.dst with | some d=>memB d ims | none=>false) r λS' _=>B04 P Γ N ops ims r os S' k
def Pa (n:Nat):List (Nat×TV)->List (Nat×TV)
 | []=>[]
 | (k,.sref m (.int .i64) j) :: l=>(k,bif Nat.beq m n then .qref n j else .sref m (.int .i64) j) :: Pa n l
 | p :: l=>p :: Pa n l
def Xd:List (Nat×TV)->Bool
 | []=>true
 | p :: l=>p.2.nq&&Xd l
def St.toQ (S:St A) (n:Nat):Option (St A) :=
 bif Nat.beq n 0 then some S else match A1 S.O n with
 | some (some (.row e (.int .i64) i))=>bif nqO n S.O&&Xd S.E then some { S with E:=Pa n S.E,O:=(n,some (.qrow e i)) :: T3 n S.O } else none
 | _=>none
end
section
variable {P:Program} {B:D5} {N:Nat} {ops:Array Oper}
theorem Q9 {α:Type} {n m:Nat} (h:m≠n):∀ l:List (Nat×α),A1 (T3 n l) m=A1 l m
 | []=>rfl
 | (j,o) :: l=>by
  simp only [T3];cases hb:Nat.beq j n with
  | true =>
   have:=Nat.eq_of_beq_eq_true hb;subst this;rw [cond_true,A4,if_neg (Ne.symm h)];exact Q9 h l
  | false=>rw [cond_false,A4,A4,Q9 h l]
theorem Mk {n m:Nat} {x:TOb} (hm:m≠n):∀ {l:List (Nat×Option TOb)},nqO n l=true->A1 l m=some (some x)->x.nq=true
 | [],_,h=>by simp [A1] at h
 | (j,o) :: l,hl,h=>by
  simp only [nqO,Bool.and_eq_true,Bool.or_eq_true] at hl;rw [A4] at h;split at h
  ·rename_i e;subst e;cases h;exact hl.1.resolve_left λh=>hm (Nat.eq_of_beq_eq_true h)
  ·exact Mk hm hl.2 h
theorem A2k (k:Nat):∀ l:List (Nat×TV),A1 (jE l) k=(A1 l k).map λx=>bif x.nq then x else .junk
 | []=>rfl
 | (j,x) :: l=>by
  simp only [jE];rw [A4,A4];split
  ·rfl
  ·exact A2k k l
theorem A7m {n:Nat}:∀ {l:List (Nat×TV)},St.ltE n l=true->St.ltE n (jE l)=true
 | [],_=>rfl
 | (j,x) :: l,h=>by
  simp only [St.ltE,Bool.and_eq_true] at h;simp only [jE,St.ltE,Bool.and_eq_true];refine⟨?_,A7m h.2⟩;cases x.nq
  ·rfl
  ·exact h.1
theorem Gq {n m:Nat}:∀ {l:List (Nat×Option TOb)},St.ltO n l=true->St.ltO n (T3 m l)=true
 | [],_=>rfl
 | (j,x) :: l,h=>by
  simp only [St.ltO,Bool.and_eq_true] at h;simp only [T3];cases Nat.beq j m with
  | true=>exact Gq h.2
  | false =>
   simp only [cond_false,St.ltO,Bool.and_eq_true];exact⟨h.1,Gq h.2⟩
theorem Sim.junkE {E E':EL} {O O':OL} {a:Act} {w:World} {σ:Nat->Option Nat} {Z:Nat->Prop} (hE:∀ k x,A1 E' k=some x->A1 E k=some x∨(x = .junk∧A1 E k≠none)) (hO:∀ n,A1 O' n=A1 O n) (s:Sim B (A1 E) (A1 O) a w σ Z):Sim B (A1 E') (A1 O') a w σ Z:=by
 have e:A1 O'=A1 O:=funext hO;rw [e];refine { s with env:=λk x hk => ?_ };rcases hE k x hk with h | ⟨rfl,h⟩
 ·exact s.env k x h
 ·cases hy:A1 E k with
  | none=>exact absurd hy h
  | some y =>
   obtain⟨v,h1,_⟩:=s.env k y hy;exact⟨v,h1,D0.junk v⟩
theorem LW.less {E E':EL} {O O':OL} {os:List Oper} {Q:Exit->EL->OL->Prop} (hE:∀ k x,A1 E' k=some x->A1 E k=some x∨(x = .junk∧A1 E k≠none)) (hO:∀ n,A1 O' n=A1 O n) (h:LW P B ops os Q E' O'):LW P B ops os Q E O :=
 λa w σ Z s=>h a w σ Z (s.junkE hE hO)
theorem Vx {i i':Hid} {S:St typ} (hS:S.ok) {d n nm j e:Nat} {lf:List (Lf typ)} (hq:nqO n S.O=true) {E:EL} {O:OL} (hE:E=(d,V.sref nm 1 (List.length i'.pre) (List.length (S.push lf (.list tyI) j))) :: @St.e i S)
  (hO:O=(nm,some (Ob.row e 1 (List.map (Ty.enc tyI) (i'.pre++S.push lf (.list tyI) j)))) :: (if n=nm then [] else [(n,none)]) ++ @St.o i S) (S':St typ) (h1:S'.E=(d,.qref nm j) :: jE S.E) (h2:S'.O=(nm,some (.qrow e j)) :: (if n=nm then [] else [(n,none)])++T3 n S.O) (h3:S'.lv=S.push lf) :
  (∀ k x,A1 (@St.e i' S') k=some x->A1 E k=some x∨(x = .junk∧A1 E k≠none))∧∀ m,A1 (@St.o i' S') m=A1 O m:=by
 have f:∀ c k,k<S.nl->S'.lv c k=S.lv c k:=λc k hk=>by rw [h3];exact D8 c k hk
 constructor
 ·intro k x hk;rw [@K8 i',h1,A4] at hk;rw [hE,A4]
  by_cases hd:d=k
  ·rw [if_pos hd] at hk ⊢;rw [h3] at hk;exact .inl hk
  ·rw [if_neg hd,A2k] at hk;rw [if_neg hd,@K8 i];cases hx:A1 S.E k with
   | none=>rw [hx] at hk;cases hk
   | some y =>
    rw [hx] at hk;simp only [Option.map_some,Option.some.injEq] at hk;cases hn:y.nq with
    | false=>rw [hn] at hk;exact .inr ⟨hk.symm,by simp⟩
    | true =>
     rw [hn,cond_true] at hk;left;rw [<- hk,Option.map_some,TV.v_nq i i' hn,@TV.Hj i' _ _ _ f y (S5 hS.1 hx)]
 ·intro m;rw [@F4 i',h2,hO,List.cons_append,List.cons_append,A4,A4]
  by_cases hm:nm=m
  ·rw [if_pos hm,if_pos hm];show some (some (@TOb.o i' S'.lv (.qrow e j)))=_;rw [h3];rfl
  ·rw [if_neg hm,if_neg hm];have tl:m≠n->Option.map (Option.map (@TOb.o i' S'.lv)) (A1 (T3 n S.O) m)=A1 (@St.o i S) m:=λhmn=>by
    rw [Q9 hmn,@F4 i];cases hx:A1 S.O m with
    | none=>rfl
    | some y =>
     cases y with
     | none=>rfl
     | some y =>
      simp only [Option.map_some];rw [TOb.o_nq i' i (Mk hmn hq hx),@TOb.Ez i _ _ _ f y (F5 hS.2 hx)]
   by_cases hn:n=nm
   ·rw [if_pos hn,if_pos hn,List.nil_append,List.nil_append];exact tl (λe=>hm (by rw [e,hn]))
   ·rw [if_neg hn,if_neg hn,List.cons_append,List.cons_append,A4,A4]
    by_cases hnm:n=m
    ·rw [if_pos hnm,if_pos hnm];rfl
    ·rw [if_neg hnm,if_neg hnm];exact tl (Ne.symm hnm)
def QOk (S0:St typ) (r:Ty) (y:r.T) (k:St typ->Option r.T) (Q:Exit->EL->OL->Prop):Prop:=∀ [Hid] S',S'.ok->H1 S0 S'->k S'=some y->Q .normal S'.e S'.o
theorem Kv {Γ:List (Sg typ)} (hΓ:∀ g∈Γ,COk P g) (hB:B.ok) (hN:B.N=N) {ims:List Nat} {r:Ty} {y:r.T} {Q:Exit->EL->OL->Prop}:∀ {os:List Oper} [Hid] {S:St typ} {k:St typ->Option r.T},S.ok->QOk S r y k Q->B04 (A:=typ) P Γ N ops ims r os S k=some y->LW P B ops os Q S.e S.o
 | [],i,S,k,hS,hk,h=>LW.nil (hk _ hS (H1.refl _) h)
 | o :: os,i,S,k,hS,hk,h=>by
  simp only [B04] at h;have go:∀ {S'},H1 S S'->QOk S' r y k Q:=λhx => @λi2 S'' ok hx' hk' => @hk i2 S'' ok (hx.trans hx') hk';split at h
  ·rename_i m hm;subst h;unfold B4z at hm;split at hm
   ·rename_i d t x y' hg hd hop;obtain⟨dst,op,ty,pos,af,gd⟩:=o;simp only at hg hd hop;subst hg hd hop;split at hm
    ·rename_i n j e ik a hx hu hy;split at hm
     ·rename_i e' i' hn;cases hb:Nat.beq e e'&&Nat.beq i' j&&tyB P e 1 false&&nqO n S.O&&Nat.blt d N with
      | false=>rw [hb] at hm;cases hm
      | true =>
       rw [hb,cond_true,Option.some.injEq] at hm;simp only [Bool.and_eq_true] at hb;obtain⟨⟨⟨⟨b1,b2⟩,b3⟩,b4⟩,b5⟩:=hb;have:=Nat.eq_of_beq_eq_true b1;subst this;have:=Nat.eq_of_beq_eq_true b2;subst this;obtain⟨c1,c2⟩:=N3 hm;rw [Gp] at c2;obtain⟨g1,g2⟩:=U2 c1;obtain⟨tx,e1,e2⟩:=E7 hy
       let lf:List (Lf typ):=[⟨.list tyI,List.drop a.toNat (S.lv (.list tyI) i')⟩]
       let S1:St typ:={ E:=(d,.qref n S.nl) :: jE S.E,O:=(n,some (.qrow e S.nl)) :: T3 n S.O,L:=St.pushL S.nl lf S.L,nl:=S.nl+1,nx:=S.nx }
       have hx1:H1 S S1:=⟨Nat.le_succ _,λc q hq=>D8 (lf:=lf) c q hq⟩;have ok1:S1.ok:=⟨by
        show(Nat.blt S.nl (S.nl+1)&&St.ltE (S.nl+1) (jE S.E))=true;rw [TV.I7 (Nat.lt_succ_self _),A7m (U1 (Nat.le_succ _) hS.1)];rfl,by
        show(Nat.blt S.nl (S.nl+1)&&St.ltO (S.nl+1) (T3 n S.O))=true;rw [TV.I7 (Nat.lt_succ_self _),Gq (J9 (Nat.le_succ _) hS.2)];rfl⟩
       have hp:S.push lf (.list tyI) S.nl=List.drop a.toNat (S.lv (.list tyI) i'):=F6;have hj:=(B6 hx).1;have hy2:=(B6 e1).1;rw [e2] at hy2;refine LW.cons (OpJ.cutQ (α:=Int) hu (F0 b3) (Ty.enc tyI) (pre:=i.pre) (q:=S.lv (.list tyI) i') hy2 g1 g2 (by rw [hN];exact TV.C2 b5) hj) ?_ ?_
       ·have h1:=(B6 hx).2;have h2:=(B6 e1).2;rw [e2] at h2;rw [E4 h1 (E4 h2 rfl)];simp only [rO,rO',F4,hn,Option.map_some];rfl
       ·have lq:=Vx (i:=i) (i':=⟨i.pre++List.take a.toNat (S.lv (.list tyI) i')⟩) hS (d:=d) (n:=n) (nm:=n) (j:=S.nl) (e:=e) (lf:=lf) b4 (E:=_) (O:=_) (by rw [hp]) (by rw [hp,if_pos rfl]) S1 rfl (by rw [if_pos rfl];rfl) rfl;exact LW.less lq.1 lq.2 (@Kv _ hΓ hB hN _ _ _ _ os ⟨i.pre++List.take a.toNat (S.lv (.list tyI) i')⟩ S1 k ok1 (go hx1) c2)
     ·cases hm
    ·cases hm
   ·rename_i d x y' t t' hg hd hop;obtain⟨dst,op,ty,pos,af,gd⟩:=o;simp only at hg hd hop;subst hg hd hop;split at hm
    ·rename_i n j m' e hx hy hu;split at hm
     ·rename_i e' i' hn;cases hb:Nat.beq t t'&&Nat.beq e e'&&Nat.beq i' j&&Bl P e 1 (bytesOf P e)&&Nat.ble (bytesOf P e) 32768&&Nat.ble 1000 S.nx&&(A1 S.O S.nx).isNone&&nqO n S.O&&Nat.blt d N with
      | false=>rw [hb] at hm;cases hm
      | true =>
       rw [hb,cond_true,Option.some.injEq] at hm;simp only [Bool.and_eq_true] at hb;obtain⟨⟨⟨⟨⟨⟨⟨⟨b0,b1⟩,b2⟩,b3⟩,b4⟩,b5⟩,b6⟩,b7⟩,b8⟩:=hb;have:=Nat.eq_of_beq_eq_true b0;subst this;have:=Nat.eq_of_beq_eq_true b1;subst this;have:=Nat.eq_of_beq_eq_true b2;subst this;obtain⟨c1,c2⟩:=N3 hm;rw [Gp] at c2;obtain⟨g1,g2⟩:=H8 c1;have g1:(0:Int)<(List.length (S.lv (.list tyI) m'):Int):=of_decide_eq_true g1;have hnn:n≠S.nx:=λe=>by
        subst e;rw [hn] at b6;cases b6
       let lf:List (Lf typ):=[⟨.list tyI,List.append (S.lv (.list tyI) i') (S.lv (.list tyI) m')⟩]
       let S1:St typ:={ E:=(d,.qref S.nx S.nl) :: jE S.E,O:=(S.nx,some (.qrow e S.nl)) :: (n,none) :: T3 n S.O,L:=St.pushL S.nl lf S.L,nl:=S.nl+1,nx:=S.nx+1 }
       have hx1:H1 S S1:=⟨Nat.le_succ _,λc q hq=>D8 (lf:=lf) c q hq⟩;have ok1:S1.ok:=⟨by
        show(Nat.blt S.nl (S.nl+1)&&St.ltE (S.nl+1) (jE S.E))=true;rw [TV.I7 (Nat.lt_succ_self _),A7m (U1 (Nat.le_succ _) hS.1)];rfl,by
        show(Nat.blt S.nl (S.nl+1)&&(true&&St.ltO (S.nl+1) (T3 n S.O)))=true;rw [TV.I7 (Nat.lt_succ_self _),Gq (J9 (Nat.le_succ _) hS.2)];rfl⟩
       have hp:S.push lf (.list tyI) S.nl=List.append (S.lv (.list tyI) i') (S.lv (.list tyI) m'):=F6;refine LW.app (α:=Int) hB hu (W4 b3) S.nx (Ty.enc tyI) (pre:=i.pre) (q:=S.lv (.list tyI) i') (ys:=S.lv (.list tyI) m') g2 (by rw [hN];exact TV.C2 b8) (B6 hx).1 (B6 hy).1 ?_ (λpre' => ?_) (Nat.le_of_ble_eq_true b5) (λe=>by rw [e] at g1;exact absurd g1 (by decide)) (λ_=>rfl) b4
       ·rw [E4 (B6 hx).2 (B6 hy).2];have:A1 S.O S.nx=none:=Option.isNone_iff_eq_none.1 b6;simp only [rO,rO',rF,rF',F4,hn,this,Option.map_some,Option.map_none];rfl
       ·have lq:=Vx (i:=i) (i':=⟨pre'⟩) hS (d:=d) (n:=n) (nm:=S.nx) (j:=S.nl) (e:=e) (lf:=lf) b7 (E:=_) (O:=_) (by rw [hp]) (by rw [hp,if_neg hnn]) S1 rfl (by rw [if_neg hnn];rfl) rfl;exact LW.less lq.1 lq.2 (@Kv _ hΓ hB hN _ _ _ _ os ⟨pre'⟩ S1 k ok1 (go hx1) c2)
     ·cases hm
    ·cases hm
   ·cases hm
  ·obtain⟨S',u,⟨α,h1,h2,h3,h4,h5,h6,h7,h8,h9,_⟩,ok',hx,hk'⟩:=Vs hΓ hB hN hS h;refine LW.cons h1 (by rw [h2,h3,h4]) ?_;rw [<- h5,<- h6];exact Kv hΓ hB hN ok' (go hx) hk'
theorem B5m [i:Hid] {S S':St typ} {n:Nat} (hS:S.ok) (h:S.toQ n=some S'):∃ i':Hid,Mat B (@St.e i S) (@St.o i S) (@St.e i' S') (@St.o i' S')∧S'.ok∧H1 S S':=by
 unfold St.toQ at h;cases h0:Nat.beq n 0 with
 | true=>rw [h0,cond_true] at h;cases h;exact⟨i,Mat.refl,hS,H1.refl _⟩
 | false =>
  rw [h0,cond_false] at h;split at h
  ·rename_i e j hn;cases hb:nqO n S.O&&Xd S.E with
   | false=>rw [hb] at h;cases h
   | true =>
    rw [hb] at h;cases h;rw [Bool.and_eq_true] at hb;have hE:∀ l:List (Nat×TV),Xd l=true -> @eOf ⟨[]⟩ S.lv (Pa n l) = @eOf i S.lv l:=by
     intro l;induction l with
     | nil=>intro _;rfl
     | cons p l ih =>
      intro hl;simp only [Xd,Bool.and_eq_true] at hl;obtain⟨k,x⟩:=p;have dflt:∀ z:TV,z.nq=true->(k,@TV.v ⟨[]⟩ S.lv z)=(k,@TV.v i S.lv z):=λz hz=>by rw [TV.v_nq ⟨[]⟩ i hz]
      unfold Pa;split
      ·rename_i heq;cases heq
      ·rename_i k' m j' l' heq;cases heq;show(_,@TV.v ⟨[]⟩ S.lv _) :: @eOf ⟨[]⟩ S.lv (Pa n l)=_ :: @eOf i S.lv l;rw [ih hl.2];congr 1;cases hm:Nat.beq m n with
       | false=>exact dflt _ rfl
       | true=>have:=Nat.eq_of_beq_eq_true hm;subst this;rfl
      ·rename_i p l' _ heq;cases heq;show(_,@TV.v ⟨[]⟩ S.lv _) :: @eOf ⟨[]⟩ S.lv (Pa n l)=_ :: @eOf i S.lv l;rw [ih hl.2];congr 1;exact dflt _ hl.1
    have lE:∀ {m:Nat} {l:List (Nat×TV)},St.ltE m l=true->St.ltE m (Pa n l)=true:=by
     intro m l;induction l with
     | nil=>intro _;rfl
     | cons p l ih =>
      intro hl;simp only [St.ltE,Bool.and_eq_true] at hl;unfold Pa;split
      ·rename_i heq;cases heq
      ·rename_i heq;cases heq;simp only [St.ltE,Bool.and_eq_true];refine⟨?_,ih hl.2⟩;cases Nat.beq _ n<;>exact hl.1
      ·rename_i heq;cases heq;simp only [St.ltE,Bool.and_eq_true];exact⟨hl.1,ih hl.2⟩
    refine⟨⟨[]⟩,λa w σ Z s=>⟨σ,Z,s.junkE (λk x hk => .inl ?_) λm => ?_⟩,⟨lE hS.1,?_⟩,⟨Nat.le_refl _,λ_ _ _=>rfl⟩⟩
    ·have e:=hE S.E hb.2;have hk:A1 (@eOf ⟨[]⟩ S.lv (Pa n S.E)) k=some x:=hk;rw [e] at hk;exact hk
    ·rw [@F4 ⟨[]⟩,@F4 i,A4]
     by_cases hm:n=m
     ·subst hm;rw [if_pos rfl,hn];rfl
     ·rw [if_neg hm,Q9 (Ne.symm hm)];cases hx:A1 S.O m with
      | none=>rfl
      | some y =>
       cases y with
       | none=>rfl
       | some y =>
        simp only [Option.map_some];rw [TOb.o_nq ⟨[]⟩ i (Mk (Ne.symm hm) hb.1 hx)];rfl
    ·simp only [St.ltO,Bool.and_eq_true];exact⟨F5 (x:=.row e (.int .i64) j) hS.2 hn,Gq hS.2⟩
  ·cases h
end
end Go.Vc
namespace Go.Vc
open Go
variable {P:Program} {B:D5} {ops:Array Oper}
section
variable {α β:Type} {h:β->Option β}
theorem Bf {p:α×β} {l r:List (α×β)} (e:Eo h (p :: l)=some r):∃ v r',h p.2=some v∧Eo h l=some r'∧r=(p.1,v) :: r':=by
 obtain⟨v,h1,h2⟩:=Option.bind_eq_some_iff.1 e;obtain⟨r',h3,h4⟩:=Option.bind_eq_some_iff.1 h2;exact⟨v,r',h1,h3,(Option.some.inj h4).symm⟩
theorem A2l:∀ {l r:List (α×β)},r.length=l.length->(∀ (j:Nat) (p:α×β),l[j]? = some p->∃ v,h p.2=some v∧r[j]? = some (p.1,v))->Eo h l=some r
 | [],[],_,_=>rfl
 | p :: l,q :: r,hl,hj=>by
  obtain⟨v,h1,h2⟩:=hj 0 p rfl;have ih:=A2l (l:=l) (r:=r) (by simpa using hl) λj p hp=>by simpa using hj (j+1) p (by simpa using hp)
  simp only [List.getElem?_cons_zero,Option.some.injEq] at h2;simp only [Eo,h1,ih,Option.bind_some,h2]
 | [],_ :: _,hl,_ | _ :: _,[],hl,_=>by simp at hl
theorem Vy:∀ {l r:List (α×β)},Eo h l=some r->∀ p∈l,∃ v,h p.2=some v
 | q :: l,r,e,p,hp=>by
  obtain⟨v,r',h1,h2,_⟩:=Bf e;rcases List.mem_cons.1 hp with rfl | hp
  ·exact⟨v,h1⟩
  ·exact Vy h2 p hp
theorem Qi:∀ {l r:List (α×β)},Eo h l=some r->r.map (·.1)=l.map (·.1)
 | [],r,e=>by cases e;rfl
 | q :: l,r,e=>by
  obtain⟨v,r',h1,h2,rfl⟩:=Bf e;simp only [List.map_cons,Qi h2]
theorem A54 {l l2:List (α×β)} (hp:l2.Perm l):∀ {r},Eo h l=some r->∃ r2,Eo h l2=some r2∧r2.Perm r:=by
 induction hp with
 | nil=>intro r e;exact⟨r,e,.refl _⟩
 | cons p _ ih =>
  intro r e;obtain⟨v,r',h1,h2,rfl⟩:=Bf e;obtain⟨r2,h3,h4⟩:=ih h2;exact⟨(p.1,v) :: r2,by simp only [Eo,h1,h3,Option.bind_some],h4.cons _⟩
 | swap p q l =>
  intro r e;obtain⟨v,r',h1,h2,rfl⟩:=Bf e;obtain⟨u,r2,h3,h4,rfl⟩:=Bf h2;exact⟨(q.1,u) :: (p.1,v) :: r2,by simp only [Eo,h1,h3,h4,Option.bind_some],.swap ..⟩
 | trans _ _ ih1 ih2 =>
  intro r e;obtain⟨r2,h1,h2⟩:=ih2 e;obtain⟨r3,h3,h4⟩:=ih1 h1;exact⟨r3,h3,h4.trans h2⟩
end
def mapS (m c:Nat) (bs:List Nat) (ps:List (D×D)):Blk where
 holds Z w b:=b=m∧∃ ents:Array MapEntry,w.heap[b]? = some (.map ents c)∧Aa Z w ps ents.toList∧Ch ents.toList c∧ents.toList.map (·.born)=bs
 move hx hb h:=by
  obtain⟨e,ents,h1,h2,h3⟩:=h;exact⟨e,ents,hb.trans h1,h2.ext hx,h3⟩
 lt h:=by
  obtain⟨_,ents,h1,_⟩:=h;exact(Array.getElem?_eq_some_iff.1 h1).1
def Bo (m c:Nat) (seen:Array Nat):Blk where
 holds _ w b:=w.heap[b]? = some (.mapIter (some m) c seen c)
 move _ hb h:=hb.trans h
 lt h:=(Array.getElem?_eq_some_iff.1 h).1
section
variable {d:Nat} {x y i:Operand} {ty:TypeId} {pos:String} {af:Array Edge} {nt nt' nt'':List (Nat×V)} {kt et t:TypeId} {nm it m c:Nat} {bs:List Nat} {seen:Array Nat} {ps:List (D×D)}
theorem Sim.mapS {env:Env} {ob:Obs} {a:Act} {w:World} {σ:Nat->Option Nat} {Z:Nat->Prop} (s:Sim B env ob a w σ Z) (h:ob nm=some (some (.blk (mapS m c bs ps)))):σ nm=some m∧∃ ents:Array MapEntry,w.heap[m]? = some (.map ents c)∧Aa Z w ps ents.toList∧Ch ents.toList c∧ents.toList.map (·.born)=bs:=by
 obtain⟨b,hb,e,ents,h1,h2⟩:=s.obj nm _ h;subst e;exact⟨hb,ents,h1,h2⟩
theorem OpJ.rangeS (hB:B.ok) (hu:P.underlying t=some (.map kt et)) (hit:1000<=it) (hne:it≠nm) (hN:d<B.N) (hx:Opd x (.mref nm) nt) :
  OpJ P B ops ⟨some d,.range t x,ty,pos,af,none⟩ { nt,no:=[(nm,.blk (mapS m c bs ps))],nf:=[it],wt:=[(d,.ptr it 0 [])],wo:=[(it,some (.blk (Bo m c #[])))] } :=
 OpJ.run rfl rfl hN rfl λenv ob a w σ Z sm hn=>by
  have hob:=hn.2.1 (nm,.blk (mapS m c bs ps)) (by simp);have hfr:=hn.2.2 it (by simp);obtain⟨b,hb,hv⟩:=Ga (hx B env ob a w σ Z sm hn.1) ⟨_,hob⟩;obtain⟨hb',ents,hw,_⟩:=sm.mapS hob;have:m=b:=Option.some.inj (hb'.symm.trans hb);subst this;have hg:(getObj m).run P w = .ok (.map ents c) w:=by simp [getObj,Sem.run,hw]
  have s2:=sm.newObj hB hfr hit (o:=.blk (Bo m c #[])) (c:=.mapIter (some m) c #[] c) λob' σ' _ hσ=>⟨w.heap.size,hσ,heap_alloc_new w _⟩;refine⟨.pointer (some ⟨w.heap.size,0,none⟩),w.alloc (.mapIter (some m) c #[] c),G3 σ it (some w.heap.size),Z,?_,by rw [F1 _ rfl];exact s2,?_⟩
  ·have hr:(Instr.range t (.map (some m))).run P w = .ok (.pointer (some ⟨w.heap.size,0,none⟩)) (w.alloc (.mapIter (some m) c #[] c)):=by
    simp [Instr.range,run_underlying hu,hg]
   simp [execOp,hv,hr]
  ·rw [F1 _ rfl];exact Ev ⟨.blk (Bo m c #[]),by simp [B9]⟩ (by simp [G3])
theorem OpJ.entryS {j q:Nat} {p:D×D} (hq:bs[j]? = some q) (hp:ps[j]? = some p) (hN:d<B.N) (hx:Opd x (.ptr it 0 []) nt) :
  OpJ P B ops ⟨some d,.entry x,ty,pos,af,none⟩ { nt,no:=[(it,.blk (Bo m c (seen.push q))),(nm,.blk (mapS m c bs ps))],wt:=[(d,.tup [.d p.1,.d p.2])] } :=
 OpJ.run rfl rfl hN rfl λenv ob a w σ Z sm hn=>by
  have hob:=hn.2.1 (it,.blk (Bo m c (seen.push q))) (by simp);have hom:=hn.2.1 (nm,.blk (mapS m c bs ps)) (by simp);obtain⟨b,hb,hv⟩:=L5 (hx B env ob a w σ Z sm hn.1) ⟨_,hob⟩;obtain⟨b',hb',h1⟩:=sm.obj it _ hob;have:b'=b:=Option.some.inj (hb'.symm.trans hb);subst this;obtain⟨_,ents,h3,h5,h4,h6⟩:=sm.mapS hom;rw [<- h6,List.getElem?_map,Option.map_eq_some_iff] at hq;obtain⟨e,ge,rfl⟩:=hq;obtain⟨p',hp',g3,g4⟩:=h5.get ge;rw [hp] at hp';cases hp';have g1:=List.mem_of_getElem? ge;have hg1:(getObj b').run P w = .ok (.mapIter (some m) c (seen.push e.born) c) w:=by
   have h1:w.heap[b']? = some (.mapIter (some m) c (seen.push e.born) c):=h1;simp [getObj,Sem.run,h1]
  have hg2:(getObj m).run P w = .ok (.map ents c) w:=by simp [getObj,Sem.run,h3]
  have hf:ents.find? (λx=>x.born==e.born)=some e:=by
   rw [<- Array.find?_toList];cases hq:ents.toList.find? (λx=>x.born==e.born) with
   | none =>
    have:=List.find?_eq_none.1 hq e g1;simp at this
   | some e' =>
    rw [Ut h4.apart (List.mem_of_find?_eq_some hq) g1 (by simpa using List.find?_some hq)]
  refine⟨.tuple #[e.key,e.val],w,σ,Z,?_,by rw [C9 _ rfl];exact sm,?_⟩
  ·have hr:(Instr.entry (.pointer (some ⟨b',0,none⟩))).run P w = .ok (.tuple #[e.key,e.val]) w:=by
    simp [Instr.entry,hg1,hg2,hf]
   simp [execOp,hv,hr]
  ·rw [C9 _ rfl];exact⟨[e.key,e.val],rfl,D0.to (DV.to g3) rfl,D0.to (DV.to g4) rfl,trivial⟩
theorem OpJ.putS {α β:Type} {f:α->D} {g:β->D} {eq:α->α->Bool} {kd:TypeDesc} {l:List (α×β)} {k:α} {v v0:β} {j:Nat} (hu:P.underlying t=some (.map kt et)) (hk:P.underlying kt=some kd) (he:V1 P kt f eq) (hd:dn f l) (hj:l[j]? = some (k,v0))
  (hx:Opd x (.mref nm) nt) (hi:Opd i (.d (f k)) nt') (hy:Opd y (.d (g v)) nt'') :
  OpJ P B ops ⟨none,.mapUpdate t x i y,ty,pos,af,none⟩ { nt:=nt++(nt'++nt''),no:=[(nm,.blk (mapS m c bs (D4 f g l)))],wo:=[(nm,some (.blk (mapS m c bs (D4 f g (l.set j (k,v))))))] } :=
 OpJ.run0 rfl rfl rfl λenv ob a w σ Z sm hne=>by
  obtain⟨h1,h2⟩:=B4 hne.1;obtain⟨h2,h3⟩:=B4 h2;have hob:=hne.2.1 (nm,.blk (mapS m c bs (D4 f g l))) (by simp);obtain⟨b,hb,hv⟩:=Ga (hx B env ob a w σ Z sm h1) ⟨_,hob⟩;obtain⟨hb',ents,hw,hl,hst,hbs⟩:=sm.mapS hob;have:m=b:=Option.some.inj (hb'.symm.trans hb);subst this;have hkd:DV Z w (f k) (a.eval i):=P2 (hi B env ob a w σ Z sm h2);have hyd:DV Z w (g v) (a.eval y):=P2 (hy B env ob a w σ Z sm h3);obtain⟨cs,hcs,hr⟩:=P2 (hi B env ob a w σ Z sm h2);have hc:=he.chk (w:=w) false ⟨_,rfl,hr⟩;rw [<- hcs] at hc;obtain⟨r,g1,g2⟩:=Ll (w:=w) hk he hkd hl;have hg:(getObj m).run P w = .ok (.map ents c) w:=by simp [getObj,Sem.run,hw]
  have hset:∀ o,(setObj m o).run P w = .ok () (Vc.setBlk w m o):=λo=>by simp [setObj,Sem.run,hw,Vc.setBlk]
  have hlt:m<w.heap.size:=(Array.getElem?_eq_some_iff.1 hw).1;have hself:∀ o,(Vc.setBlk w m o).heap[m]? = some o:=λo=>by unfold Vc.setBlk;simp [hlt]
  have key:∀ {l:List (α×β)} {j:Nat},dn f l->l[j]? = some (k,v0)->mix eq k l=some (j,v0)∧Vc.mput eq l k v=l.set j (k,v):=by
   intro l;induction l with
   | nil=>intro j _ h;simp at h
   | cons p l ih =>
    intro j hd h;have hd':dn f l:=(List.nodup_cons.1 hd).2;cases j with
    | zero =>
     simp only [List.getElem?_cons_zero,Option.some.injEq] at h;subst h;have:eq k k=true:=(he.iff _ _).2 rfl;simp only [mix,Vc.mput,this,if_true,List.set_cons_zero,and_self]
    | succ j =>
     rw [List.getElem?_cons_succ] at h;obtain⟨i1,i2⟩:=ih hd' h;have hc:¬ eq k p.1=true:=λe=>(List.nodup_cons.1 hd).1 (by
      exact List.mem_map.2 ⟨(k,v0),List.mem_of_getElem? h,(he.iff _ _).1 e⟩)
     rw [mix,Vc.mput,if_neg hc,if_neg hc,i1,i2];exact⟨rfl,rfl⟩
  obtain⟨hq,hp⟩:=key hd hj;rw [hq] at g2;obtain⟨vv,rfl,_⟩:=g2;obtain⟨e,he1,he2⟩:=Rp he.same hl hq;have hj':ents[j]? = some e:=by simpa using he1
  have hs:=he.stay (w:=w) he2 hkd;refine⟨Vc.setBlk w m (.map (ents.modify j λe => { e with key:=a.eval i,val:=a.eval y }) c),σ,Z,.inl ?_,?_⟩
  ·simp [execOp,hv,Instr.mapUpdate,run_underlying hu,hg,hc,g1,hset,hj',hs]
  ·rw [F1 _ rfl];refine sm.setBlk hob hb hlt (by simp [World.shape?,hself,hw]) λob' mv=>⟨m,hb,rfl,_,hself _,?_,?_,?_⟩
   ·rw [Array.toList_modify,<- hp];exact Lm (hyd.ext mv.ext) (hkd.ext mv.ext) he.same (hl.ext mv.ext) hq
   ·rw [Array.toList_modify];exact hst.modify _ _ _
   ·rw [Array.toList_modify,Cy,hbs]
theorem A55 {env:Env} {ob:Obs} {a:Act} {w:World} {σ:Nat->Option Nat} {Z:Nat->Prop} {b:Nat} (s:Sim B env ob a w σ Z) (hob:ob it=some (some (.blk (Bo m c seen)))) (hom:ob nm=some (some (.blk (mapS m c bs ps)))) (hb:σ it=some b) :
  ((∀ q∈bs,seen.contains q=true)∧∃ w1,(w1=w∨w1=w.drew)∧(Instr.next (.pointer (some ⟨b,0,none⟩)) false ty).run P w = .ok (.tuple #[.bool false]) w1) ∨
  ∃ (j q:Nat) (w1:World) (kv vv:Value),bs[j]? = some q∧seen.contains q=false∧(Instr.next (.pointer (some ⟨b,0,none⟩)) false ty).run P w = .ok (.tuple #[.bool true,kv,vv]) w1∧Sim B env (B9 ob it (some (.blk (Bo m c (seen.push q))))) a w1 σ Z:=by
 obtain⟨b',hb',h1⟩:=s.obj it _ hob;have:b'=b:=Option.some.inj (hb'.symm.trans hb);subst this;have h1:w.heap[b']? = some (.mapIter (some m) c seen c):=h1;obtain⟨_,ents,h3,h5,h4,h6⟩:=s.mapS hom;have hg1:(getObj b').run P w = .ok (.mapIter (some m) c seen c) w:=by simp [getObj,Sem.run,h1]
 have hg2:(getObj m).run P w = .ok (.map ents c) w:=by simp [getObj,Sem.run,h3]
 have hnot:(!seen.isEmpty && !ents.isEmpty&&ents.all (λe=>decide (e.born>=c)))=false:=by
  cases he:ents.isEmpty with
  | true=>simp
  | false =>
   have:ents.all (λe=>decide (e.born>=c))=false:=by
    rw [<- Array.all_toList];cases hl:ents.toList with
    | nil=>simp at hl;subst hl;simp at he
    | cons x L =>
     have:=h4.below x (by rw [hl];exact List.mem_cons_self);simp only [List.all_cons,Bool.and_eq_false_iff,decide_eq_false_iff_not];exact .inl (by omega)
   rw [this];simp
 have hold:((ents.filter λe => !seen.contains e.born).filter λe=>decide (e.born<c))=ents.filter λe => !seen.contains e.born:=by
  refine Array.filter_eq_self.2 λe he => ?_;simpa using h4.below e (by simpa using (Array.mem_filter.1 he).1)
 have hnew:((ents.filter λe => !seen.contains e.born).filter λe=>decide (e.born>=c)) = #[]:=by
  refine Array.filter_eq_empty_iff.2 λe he => ?_;have:=h4.below e (by simpa using (Array.mem_filter.1 he).1);simp;omega
 have htl:(ents.filter λe => !seen.contains e.born).toList=ents.toList.filter λe => !seen.contains e.born:=by simp
 generalize hL:(ents.filter λe => !seen.contains e.born)=L at hold hnew htl;have hrun:∀ (k:Nat) (w1:World) (x:Option MapEntry),(choose (.mapNext ((if L.isEmpty then #[none] else #[])++(L++(#[]:Array MapEntry)).map some).size)).run P w = .ok k w1->((if L.isEmpty then #[none] else #[])++(L++(#[]:Array MapEntry)).map some)[k]? = some x ->
   (Instr.next (.pointer (some ⟨b',0,none⟩)) false ty).run P w=(match x with
    | some e=>(do setObj b' (.mapIter (some m) c (seen.push e.born) c);pure (.tuple #[.bool true,e.key,e.val]):Sem Value).run P w1
    | none => .ok (.tuple #[.bool false]) w1):=by
  intro k w1 x hk hc;unfold Instr.next;simp only [Sem.run_bind,hg1,Result.andThen_ok,hg2,hnot,Bool.false_eq_true,if_false,hL,hold,hnew];rw [hk];simp only [Result.andThen_ok,hc];cases x<;>simp
 by_cases hE:L = #[]
 ·subst hE;left;obtain⟨k,w1,hk,hr,hw1⟩:=Lq (P:=P) 1 (by omega) w;have hk0:k=0:=by omega
  subst hk0;refine⟨λq hq => ?_,w1,hw1,hrun 0 w1 none (by simpa using hr) (by simp)⟩;rw [<- h6] at hq;obtain⟨e,he,rfl⟩:=List.mem_map.1 hq;have:=List.filter_eq_nil_iff.1 htl.symm e he;simpa using this
 ·right;have hpos:0<L.size:=by
   rcases Nat.eq_zero_or_pos L.size with h | h
   ·exact(hE (Array.eq_empty_of_size_eq_zero h)).elim
   ·exact h
  have hne:L.isEmpty=false:=by simp [Array.isEmpty];omega
  obtain⟨k,w1,hk,hr,hw1⟩:=Lq (P:=P) L.size hpos w;have hmem:L[k]∈ents.toList.filter λe => !seen.contains e.born:=by rw [<- htl];simp
  obtain⟨hm1,hm2⟩:=List.mem_filter.1 hmem;obtain⟨j,hj⟩:=List.getElem?_of_mem hm1;have s1:Sim B env ob a w1 σ Z:=by
   rcases hw1 with rfl | rfl
   ·exact s
   ·exact s.drew
  have hh1:w1.heap=w.heap:=by rcases hw1 with rfl | rfl<;>rfl
  have h1':w1.heap[b']? = some (.mapIter (some m) c seen c):=by rw [hh1];exact h1
  have hlt:b'<w1.heap.size:=(Array.getElem?_eq_some_iff.1 h1').1;have hset:∀ o,(setObj b' o).run P w1 = .ok () (Vc.setBlk w1 b' o):=λo=>by simp [setObj,Sem.run,h1',Vc.setBlk]
  have hself:∀ o,(Vc.setBlk w1 b' o).heap[b']? = some o:=λo=>by unfold Vc.setBlk;simp [hlt]
  refine⟨j,L[k].born,Vc.setBlk w1 b' (.mapIter (some m) c (seen.push L[k].born) c),L[k].key,L[k].val,by rw [<- h6,List.getElem?_map,hj];rfl,by simpa using hm2,?_,?_⟩
  ·rw [hrun k w1 (some L[k]) (by simpa [hne] using hr) (by simp [hne,hk])];simp [hset]
  ·exact s1.setBlk hob hb hlt (by simp [World.shape?,hself,h1']) λob' mv=>⟨b',hb,hself _⟩
end
section
variable {Q:Exit->EL->OL->Prop} {α β:Type} {f:α->D} {g:β->D} {h:β->Option β}
variable {l:List (α×β)} {bs:List Nat} {c it m nm:Nat} {po:OL}
theorem Zj {E:EL} {O:OL} {t7 t8 t9 id:Nat} {ty8 ty9:TypeId} {pos8 pos9:String} {af8 af9:Array Edge} {seen:Array Nat} {ps:List (D×D)} {a:Act} {w:World} {σ:Nat->Option Nat} {Z:Nat->Prop} (s:Sim B (A1 E) (A1 O) a w σ Z) (h8:t8<B.N) (h9:t9<B.N) (hit:A1 E t7=some (.ptr it 0 [])) (hob:A1 O it=some (some (.blk (Bo m c seen)))) (hom:A1 O nm=some (some (.blk (mapS m c bs ps)))) {QQ:Exit->Act->World->Prop} (h0:(∀ q∈bs,seen.contains q=true)->∀ a' w',Sim B (A1 (Nl false E t8 t9)) (A1 O) a' w' σ Z->QQ .normal a' w') (h1:∀ (j q:Nat),bs[j]? = some q->seen.contains q=false->∀ a' w',Sim B (A1 (Nl true E t8 t9)) (A1 ((it,some (.blk (Bo m c (seen.push q)))) :: O)) a' w' σ Z->QQ .normal a' w') :
  (Code.region id [⟨some t8,.next (.tmp t7) false,ty8,pos8,af8,none⟩,⟨some t9,.extract (.tmp t8) 0,ty9,pos9,af9,none⟩].toArray false).wp P QQ a w:=by
 obtain⟨b,hb,hv⟩:=L5 (Opd.tmp t7 (.ptr it 0 []) B (A1 E) (A1 O) a w σ Z s (λp hp=>by simp at hp;subst hp;exact hit)) ⟨_,hob⟩;rcases A55 (ty:=ty8) s hob hom hb with ⟨hp,w1,hw1,hr⟩ | ⟨j,q,w1,kv,vv,hq,hs,hr,s1⟩
 ·refine Uu s.len h8 h9 hv false [] hr ?_ (h0 hp);rcases hw1 with rfl | rfl
  ·exact s
  ·exact s.drew
 ·rw [<- V7] at s1;exact Uu s.len h8 h9 hv true [kv,vv] hr s1 (h1 j q hq hs)
def Q5 (f:α->D) (g:β->D) (it nm m c:Nat) (bs:List Nat) (po:OL) (seen:Array Nat) (l:List (α×β)):OL:=(it,some (.blk (Bo m c seen))) :: (nm,some (.blk (mapS m c bs (D4 f g l)))) :: po
theorem A7n {seen:Array Nat}:A1 (Q5 f g it nm m c bs po seen l) it=some (some (.blk (Bo m c seen))):=by rw [Q5,A4,if_pos rfl]
theorem Vz {seen:Array Nat} (hne:it≠nm):A1 (Q5 f g it nm m c bs po seen l) nm=some (some (.blk (mapS m c bs (D4 f g l)))):=by rw [Q5,A4,if_neg hne,A4,if_pos rfl]
theorem AWp.loopEa {t7 t8 t9 id k it nm m c:Nat} {ty8 ty9:TypeId} {pos8 pos9:String} {af8 af9:Array Edge} {body:Code} {bs:List Nat} {l l':List (α×β)} {pe:EL} {po:OL} (h8:t8<B.N) (h9:t9<B.N) (hne:it≠nm) (hit:A1 pe t7=some (.ptr it 0 [])) (hl:bs.length=l.length) (hnd:bs.Nodup) (hl':Eo h l=some l')
  (hround:∀ (seen:Array Nat) (cur:List (α×β)) (j q:Nat) (p:α×β) (v:β),cur[j]? = some p->bs[j]? = some q->h p.2=some v->cur.map (·.1)=l.map (·.1) ->
   AWp P B body (λe E' O'=>e = .normal∧Mat B E' O' pe (Q5 f g it nm m c bs po (seen.push q) (cur.set j (p.1,v)))) (Nl true pe t8 t9) (Q5 f g it nm m c bs po (seen.push q) cur))
  (hfin:∀ seen,Q (.exit k) (Nl false pe t8 t9) (Q5 f g it nm m c bs po seen l')) :
  AWp P B (.loop (.seq (.region id [⟨some t8,.next (.tmp t7) false,ty8,pos8,af8,none⟩,⟨some t9,.extract (.tmp t8) 0,ty9,pos9,af9,none⟩].toArray false) (.seq (.cond (.tmp t9) .skip (.exit k)) body))) Q pe (Q5 f g it nm m c bs po #[] l):=by
 intro a w σ Z sm;refine Yb (bs.length+1) a w ?_
 let C:Code:=.seq (.region id [⟨some t8,.next (.tmp t7) false,ty8,pos8,af8,none⟩,⟨some t9,.extract (.tmp t8) 0,ty9,pos9,af9,none⟩].toArray false) (.seq (.cond (.tmp t9) .skip (.exit k)) body)
 let R:Exit->Act->World->Prop:=λe a' w'=>∃ E' O' σ' Z',Q e E' O'∧Sim B (A1 E') (A1 O') a' w' σ' Z'
 let inv:Array Nat->List (α×β)->Prop:=λseen cur=>cur.length=l.length∧∀ (j:Nat) (p:α×β) (q:Nat),l[j]? = some p->bs[j]? = some q->(seen.contains q=true->∃ v,h p.2=some v∧cur[j]? = some (p.1,v))∧(seen.contains q=false->cur[j]? = some p)
 have step:∀ (T:Act->World->Prop) (n:Nat),(∀ (seen:Array Nat) (cur:List (α×β)) (a:Act) (w:World) (σ:Nat->Option Nat) (Z:Nat->Prop),(bs.filter λq => !seen.contains q).length<n->inv seen cur->Sim B (A1 pe) (A1 (Q5 f g it nm m c bs po seen cur)) a w σ Z->T a w) ->
   ∀ (seen:Array Nat) (cur:List (α×β)) (a:Act) (w:World) (σ:Nat->Option Nat) (Z:Nat->Prop),(bs.filter λq => !seen.contains q).length<=n->inv seen cur->Sim B (A1 pe) (A1 (Q5 f g it nm m c bs po seen cur)) a w σ Z->C.wp P (Exit.then T R) a w:=by
  intro T n hT seen cur a w σ Z hn hv sm;have hbj:∀ {j:Nat},j<l.length->∃ q,bs[j]? = some q:=fun {j} hj=>⟨bs[j],List.getElem?_eq_getElem (by omega)⟩;refine wp_seq (Zj sm h8 h9 hit A7n (Vz hne) (λhall a' w' s' => ?_) (λj q hq hs a' w' s' => ?_))
  ·refine wp_seq (wp_cond_split (J5 (Opd.tmp t9 (.d (.bool false)) B _ _ a' w' σ Z s' (λp hp=>by simp at hp;subst hp;simp [Nl,A4]))) (λh=>by cases h) (λ_=>wp_exit ?_));have hc:Eo h l=some cur:=A2l hv.1 λj p hp=>by
    obtain⟨q,hq⟩:=hbj (List.getElem?_eq_some_iff.1 hp).1;exact(hv.2 j p q hp hq).1 (hall q (List.mem_of_getElem? hq))
   rw [hl'] at hc;cases hc;exact⟨_,_,σ,Z,hfin seen,s'⟩
  ·have hj:j<l.length:=by rw [<- hl];exact(List.getElem?_eq_some_iff.1 hq).1
   have hp:l[j]? = some l[j]:=List.getElem?_eq_getElem hj;have hcj:=(hv.2 j l[j] q hp hq).2 hs;obtain⟨v,hvv⟩:=Vy hl' l[j] (List.getElem_mem hj);have e:A1 ((it,some (Ob.blk (Bo m c (seen.push q)))) :: Q5 f g it nm m c bs po seen cur)=A1 (Q5 f g it nm m c bs po (seen.push q) cur):=by
    funext i;simp only [Q5,A4]
    by_cases h:it=i<;>simp [h]
   rw [e] at s';have hk:cur.map (·.1)=l.map (·.1):=by
    refine List.ext_getElem? λi => ?_;rw [List.getElem?_map,List.getElem?_map]
    by_cases hi:i<l.length
    ·have hp:l[i]? = some l[i]:=List.getElem?_eq_getElem hi;obtain⟨q,hq⟩:=hbj hi;cases hs:seen.contains q with
     | true =>
      obtain⟨v,_,h2⟩:=(hv.2 i _ q hp hq).1 hs;rw [h2,hp];rfl
     | false=>rw [(hv.2 i _ q hp hq).2 hs,hp]
    ·have h1:=hv.1;rw [List.getElem?_eq_none_iff.2 (show cur.length<=i by omega),List.getElem?_eq_none_iff.2 (show l.length<=i by omega)]
   refine wp_seq (wp_cond_split (J5 (Opd.tmp t9 (.d (.bool true)) B _ _ a' w' σ Z s' (λp hp=>by simp at hp;subst hp;simp [Nl,A4]))) (λ_=>wp_skip ?_) (λh=>by cases h));refine wp_mono (hround seen cur j q l[j] v hcj hq hvv hk a' w' σ Z s') λex a2 w2 ⟨E',O',σ',Z',⟨hex,hm⟩,s2⟩ => ?_;subst hex;obtain⟨σ2,Z2,s3⟩:=hm a2 w2 σ' Z' s2;refine hT _ _ a2 w2 σ2 Z2 (Nat.lt_of_lt_of_le ?_ hn) ⟨by rw [List.length_set];exact hv.1,λi p q' hp' hq' => ?_⟩ s3
   ·have e1:(bs.filter λx => !(seen.push q).contains x)=(bs.filter λx => !seen.contains x).filter λx=>x != q:=by
     rw [List.filter_filter];refine List.filter_congr λx _ => ?_;simp [Bool.and_comm,bne];rfl
    rw [e1];exact List.length_filter_lt_length_iff_exists.2 ⟨q,List.mem_filter.2 ⟨List.mem_of_getElem? hq,by rw [hs];rfl⟩,by simp⟩
   ·by_cases hij:j=i
    ·subst hij;rw [hq] at hq';cases hq';rw [hp] at hp';cases hp';refine⟨λ_=>⟨v,hvv,?_⟩,λh=>by simp at h⟩;rw [List.getElem?_set_self (by rw [hv.1];exact hj)]
    ·have hqq:q≠q':=λe=>by
      subst e;exact hij ((List.getElem?_inj (List.getElem?_eq_some_iff.1 hq).1 hnd).1 (hq.trans hq'.symm))
     rw [List.getElem?_set_ne hij];have:=hv.2 i p q' hp' hq';simpa [Ne.symm hqq,hqq] using this
 have main:∀ (n:Nat) (seen:Array Nat) (cur:List (α×β)) (a:Act) (w:World) (σ:Nat->Option Nat) (Z:Nat->Prop),(bs.filter λq => !seen.contains q).length<=n->inv seen cur->Sim B (A1 pe) (A1 (Q5 f g it nm m c bs po seen cur)) a w σ Z->rds P C R (n+1) a w:=by
  intro n;induction n with
  | zero=>exact step _ 0 λ_ _ _ _ _ _ h=>absurd h (Nat.not_lt_zero _)
  | succ n ih=>exact step _ (n+1) λseen cur a w σ Z hlt=>ih seen cur a w σ Z (Nat.le_of_lt_succ hlt)
 exact main bs.length #[] l a w σ Z (List.length_filter_le ..) ⟨rfl,λj p q hp hq=>⟨λh=>by simp at h,λ_=>hp⟩⟩ sm
end
end Go.Vc
namespace Go.Vc
open Go
variable {P:Program} {B:D5} {ops:Array Oper} {N:Nat}
def Y0:List Nat->Bool
 | []=>true
 | n :: l => !memB n l&&Y0 l
structure O7 (o:Oper) (d:Option Nat) (op:Op):Prop where
 d0:o.dst=d
 o0:o.op=op
 g0:o.guard=none
theorem O7.j {o:Oper} {d:Option Nat} {op:Op} {α:Eff} (h:O7 o d op) (k:OpJ P B ops ⟨d,op,o.type,o.pos,o.after,none⟩ α):OpJ P B ops o α:=by
 obtain⟨rfl,rfl,g⟩:=h;obtain⟨d,op,ty,pos,af,gd⟩:=o;cases g;exact k
theorem Ar {n:Nat}:∀ {l:List Nat},n∈l->memB n l=true
 | m :: l,h=>by
  simp only [memB,Bool.or_eq_true];rcases List.mem_cons.1 h with e | h
  ·left;subst e;exact Nat.beq_refl _
  ·exact .inr (Ar h)
theorem Jz:∀ {l:List Nat},Y0 l=true->l.Nodup
 | [],_ => .nil
 | n :: l,h=>by
  simp only [Y0,Bool.and_eq_true,Bool.not_eq_true'] at h;refine List.nodup_cons.2 ⟨λhn => ?_,Jz h.2⟩;rw [Ar hn] at h;cases h.1
section
variable {α β:Type} {f:α->D} {g:β->D} {eq:α->α->Bool} {h:β->Option β}
structure B79 (E0:EL) (po:OL) (it nm bx:Nat) (ts:List Nat):Prop where
 e0:∀ p∈E0,A1 E0 p.1=some p.2
 e1:∀ t∈ts,A1 E0 t=none
 o0:∀ p∈po,A1 po p.1=some p.2
 n1:A1 po it=none
 n2:A1 po nm=none
 n3:A1 po bx=none
 ne:it≠nm∧bx≠it∧bx≠nm
 ok:(∀ p∈E0,∀ n∈p.2.names,n∈nm :: B8 po)∧∀ k o,(k,some o)∈po->∀ n∈o.names,n∈nm :: B8 po
theorem Qj {E:EL} {O:OL} (h1:∀ p∈E,∀ n∈p.2.names,n∈B8 O) (h2:∀ k o,(k,some o)∈O->∀ n∈o.names,n∈B8 O):Dl [] E O=true:=by
 unfold Dl;simp only [Bool.and_eq_true,List.all_eq_true];refine⟨⟨⟨λp hp n hn=>Ar (h1 p hp n hn),λp hp => ?_⟩,λp hp q hq => ?_⟩,λp hp => ?_⟩
 ·obtain⟨k,o⟩:=p;cases o with
  | none=>rfl
  | some o=>exact List.all_eq_true.2 λn hn=>Ar (h2 k o hp n hn)
 ·obtain⟨n,o⟩:=p;obtain⟨m,o'⟩:=q;cases o<;>cases o'<;>simp [rnm,A1]
 ·obtain⟨n,o⟩:=p;cases o<;>simp [rnm,A1]
theorem A7o (hB:B.ok) {E0:EL} {po:OL} {it nm bx m c:Nat} {bs:List Nat} {seen:Array Nat} {l':List (α×β)} {ts:List Nat} {a1 a2:Nat} (k:B79 E0 po it nm bx (a2 :: a1 :: ts)) (ha:a2≠a1) (hts:a1∉ts∧a2∉ts) {E':EL} {O':OL}
  (hE:∀ t,t∉ts->A1 E' t=A1 ((a2,V.ptr it 0 []) :: (a1,.mref nm) :: E0) t)
  (h1:A1 O' it=some (some (.blk (Bo m c seen)))) (h2:A1 O' nm=some (some (.blk (mapS m c bs (D4 f g l'))))) (h3:∀ n,n≠it->n≠nm->n≠bx->A1 O' n=A1 po n) :
  Mat B E' O' ((a2,V.ptr it 0 []) :: (a1,.mref nm) :: E0) (Q5 f g it nm m c bs po seen l'):=by
 have some_of:∀ {t:Nat} {x:V},A1 E0 t=some x->t∉a2 :: a1 :: ts:=λh hm=>by rw [k.e1 _ hm] at h;cases h
 refine kp _ _ hB ?_ ?_ ?_
 ·rw [Lo,Ey];refine List.map_congr_left λp hp => ?_;rcases List.mem_cons.1 hp with rfl | hp
  ·rw [hE _ hts.2,A4,if_pos rfl]
  ·rcases List.mem_cons.1 hp with rfl | hp
   ·rw [hE _ hts.1,A4,if_neg ha,A4,if_pos rfl]
   ·have hl:=k.e0 p hp;have hn:=some_of hl;simp only [List.mem_cons,not_or] at hn;rw [hE _ hn.2.2,A4,if_neg (Ne.symm hn.1),A4,if_neg (Ne.symm hn.2.1),hl]
 ·refine List.map_congr_left λp hp => ?_;rcases List.mem_cons.1 hp with rfl | hp
  ·exact h1
  ·rcases List.mem_cons.1 hp with rfl | hp
   ·exact h2
   ·have hl:=k.o0 p hp;rw [h3 p.1 (λe=>by rw [e,k.n1] at hl;cases hl) (λe=>by rw [e,k.n2] at hl;cases hl) (λe=>by rw [e,k.n3] at hl;cases hl),hl]
 ·have up:∀ {n:Nat},n∈nm :: B8 po->n∈B8 (Q5 f g it nm m c bs po seen l'):=λh=>List.mem_cons_of_mem _ h;refine Qj (λp hp n hn => ?_) λq o hp n hn => ?_
  ·rcases List.mem_cons.1 hp with rfl | hp
   ·simp only [V.names,List.mem_singleton] at hn;subst hn;exact List.mem_cons_self ..
   ·rcases List.mem_cons.1 hp with rfl | hp
    ·simp only [V.names,List.mem_singleton] at hn;subst hn;exact up (List.mem_cons_self ..)
    ·exact up (k.ok.1 p hp n hn)
  ·rcases List.mem_cons.1 hp with e | hp
   ·cases e;cases hn
   ·rcases List.mem_cons.1 hp with e | hp
    ·cases e;cases hn
    ·exact up (k.ok.2 q o hp n hn)
theorem A56 (hB:B.ok) {kt et vt mt fid:Nat} {kd:TypeDesc} {ts:Array TypeId} {E0:EL} {po:OL} {it nm bx m c a0 a1 a2 a3 a4 a5 a6 a7 a8 a9 a10 a11 a12 a13 b3 r3 r4:Nat} {bs:List Nat} {o5 o6 o7 o8 o9 o10 o11 o12 o13 o14 o15:Oper} {z:β}
  (i5:O7 o5 (some a5) (.entry (.tmp a2))) (i6:O7 o6 (some a6) (.extract (.tmp a5) 0)) (i7:O7 o7 (some a7) (.extract (.tmp a5) 1)) (i8:O7 o8 (some a8) (.alloc et)) (i9:O7 o9 (some a9) (.assign (.tmp a6))) (i10:O7 o10 none (.store et (.tmp a8) (.tmp a7)))
  (i11:O7 o11 (some a10) (.move (.tmp a0))) (i12:O7 o12 (some a11) (.move (.tmp a9))) (i13:O7 o13 (some a12) (.load et (.tmp a8))) (i14:O7 o14 (some a13) (.call { callee:=.value (.func fid),args:=#[.tmp a12],argTypes:=ts })) (i15:O7 o15 none (.mapUpdate mt (.tmp a10) (.tmp a11) (.tmp a13)))
  (k:B79 E0 po it nm bx [a2,a1,a13,a12,a11,a10,a9,a8,a7,a6,a5,a4,a3]) (hd:[a13,a12,a11,a10,a9,a8,a7,a6,a5,a4,a3,a2,a1,a0].Nodup) (hN:∀ t∈[a13,a12,a11,a10,a9,a8,a7,a6,a5],t<B.N) (h0:A1 E0 a0=some (.mref nm)) (hq:1000<=bx)
  (hu:P.underlying mt=some (.map kt vt)) (hkd:P.underlying kt=some kd) (he:V1 P kt f eq) (hz:TyZ P et (.d (g z))) {n:Nat} {ag:Bool} (ht:TyS P et n ag) (hg:∀ y,(g y).sz=n∧(g y).isAgg=ag) (hf:Ww P fid)
  {l cur:List (α×β)} {seen:Array Nat} {j s:Nat} {p:α×β} {v:β} (hdn:dn f l) (hac:AC P fid [.d (g p.2)] [] (.d (g v)) []) (hj:cur[j]? = some p) (hs:bs[j]? = some s) (hk:cur.map (·.1)=l.map (·.1)) :
  AWp P B (.block b3 (.seq (.region r3 [o5,o6,o7,o8,o9,o10].toArray false) (.region r4 [o11,o12,o13,o14,o15].toArray false)))
   (λe E' O'=>e = .normal∧Mat B E' O' ((a2,V.ptr it 0 []) :: (a1,.mref nm) :: E0) (Q5 f g it nm m c bs po (seen.push s) (cur.set j (p.1,v))))
   (Nl true ((a2,V.ptr it 0 []) :: (a1,.mref nm) :: E0) a3 a4) (Q5 f g it nm m c bs po (seen.push s) cur):=by
 have hd0:=hd;simp only [List.nodup_cons,List.mem_cons,not_or,List.not_mem_nil,not_false_eq_true,and_true,true_and,List.nodup_nil] at hd;simp only [List.mem_cons,forall_eq_or_imp,List.not_mem_nil,false_implies,implies_true,and_true] at hN;obtain⟨n1,n2,n3⟩:=k.ne;have hpo:=k.n3;have hdn':dn f cur:=by
  unfold dn at hdn ⊢;have:cur.map (λp=>f p.1)=(cur.map (·.1)).map f:=by rw [List.map_map];rfl
  rw [this,hk,List.map_map];exact hdn
 have hmp:(D4 f g cur)[j]? = some (f p.1,g p.2):=by unfold D4;rw [List.getElem?_map,hj];rfl
 have d5:=OpJ.entryS (P:=P) (B:=B) (ops:=[o5,o6,o7,o8,o9,o10].toArray) (d:=a5) (x:=.tmp a2) (ty:=o5.type) (pos:=o5.pos) (af:=o5.after) (nm:=nm) (m:=m) (c:=c) (seen:=seen) (it:=it) hs hmp hN.2.2.2.2.2.2.2.2 (q a2);refine AWp.block (sr (cg (i5.j d5) ?_ (cg (i6.j (OpJ.extract (vs:=[.d (f p.1),.d (g p.2)]) (k:=0) (v:=.d (f p.1)) rfl rfl hN.2.2.2.2.2.2.2.1 (q a5))) ?_ (cg (i7.j (OpJ.extract (vs:=[.d (f p.1),.d (g p.2)]) (k:=1) (v:=.d (g p.2)) rfl rfl hN.2.2.2.2.2.2.1 (q a5))) ?_ (cg (i8.j (OpJ.alloc hB hz hq hN.2.2.2.2.2.1)) ?_ (cg (i9.j (OpJ.assign (v:=.d (f p.1)) hN.2.2.2.2.1 (q a6))) ?_ (cg (i10.j (OpJ.storeB ht (.here (.d (g z)) (.d (g p.2))) (show(V.d (g p.2)).sz=n from(hg p.2).1) ((hg p.2).1.trans (hg z).1.symm) V.noConfusion rfl (q a8) (q a7) (bt:=et) (nm:=bx))) ?_ cn)))))) (rg (cg (i11.j (OpJ.move (v:=.mref nm) hN.2.2.2.1 (q a0))) ?_ (cg (i12.j (OpJ.move (v:=.d (f p.1)) hN.2.2.1 (q a9))) ?_ (cg (i13.j (OpJ.loadB ht (.here (.d (g p.2))) (show(V.d (g p.2)).isAgg=ag from(hg p.2).2) (show(V.d (g p.2)).sz=n from(hg p.2).1) rfl hN.2.1 (q a8) (bt:=et) (nm:=bx))) ?_ (cg (i14.j (OpJ.callFn (xs:=[.tmp a12]) hB hf hac [] rfl hN.1 rfl (.cons (q a12) .nil))) ?_ (cg (i15.j (OpJ.putS (nm:=nm) (m:=m) (c:=c) (bs:=bs) (g:=g) (v:=v) hu hkd he hdn' hj (q a10) (q a11) (q a13))) ?_ cn))))) ?_))
 case refine_12 =>
  refine⟨rfl,A7o hB k hd.2.2.2.2.2.2.2.2.2.2.2.1.1 ?_ (λt ht => ?_) ?_ ?_ (λn h1 h2 h3 => ?_)⟩
  ·have:=(List.nodup_append.1 (show([a13,a12,a11,a10,a9,a8,a7,a6,a5,a4,a3]++[a2,a1,a0]).Nodup from hd0)).2.2;exact⟨λh=>this _ h a1 (by simp) rfl,λh=>this _ h a2 (by simp) rfl⟩
  ·simp only [List.mem_cons,not_or,List.not_mem_nil,not_false_eq_true,and_true] at ht;obtain⟨k1,k2,k3,k4,k5,k6,k7,k8,k9,k10,k11⟩:=ht;simp [ap,Nl,A4,U3,Ne.symm k1,Ne.symm k2,Ne.symm k3,Ne.symm k4,Ne.symm k5,Ne.symm k6,Ne.symm k7,Ne.symm k8,Ne.symm k9,Ne.symm k10,Ne.symm k11]
  ·simp [ap,Q5,A4,U3,Em,Ne.symm n1,n2]
  ·simp [ap,Q5,A4,U3,Em]
  ·simp [ap,Q5,A4,U3,Em,Ne.symm h1,Ne.symm h2,Ne.symm h3]
 all_goals simp [rE,rE',rO,rO',rF,rF',ap,Nl,Q5,A4,hd,U3,Tb,Em,Z8,V.ren,h0,n1,n2,n3,Ne.symm n2,Ne.symm n3,hpo]
end
end Go.Vc
namespace Go.Vc
open Go
def B05 (o:Oper):Option (Nat×Nat):=match o.dst,o.op,o.guard with
 | some d,.move (.tmp x),none=>some (d,x)
 | _,_,_=>none
def B06 (o:Oper):Option (Nat×Nat):=match o.dst,o.op,o.guard with
 | some d,.assign (.tmp x),none=>some (d,x)
 | _,_,_=>none
def B07 (o:Oper):Option (Nat×Nat×Nat):=match o.dst,o.op,o.guard with
 | some d,.range t (.tmp x),none=>some (d,t,x)
 | _,_,_=>none
def B08 (o:Oper):Option (Nat×Nat):=match o.dst,o.op,o.guard with
 | some d,.next (.tmp x) false,none=>some (d,x)
 | _,_,_=>none
def Xe (o:Oper):Option (Nat×Nat×Nat):=match o.dst,o.op,o.guard with
 | some d,.extract (.tmp x) k,none=>some (d,x,k)
 | _,_,_=>none
def B09 (o:Oper):Option (Nat×Nat):=match o.dst,o.op,o.guard with
 | some d,.entry (.tmp x),none=>some (d,x)
 | _,_,_=>none
def B0a (o:Oper):Option (Nat×Nat):=match o.dst,o.op,o.guard with
 | some d,.alloc t,none=>some (d,t)
 | _,_,_=>none
def B0b (o:Oper):Option (Nat×Nat×Nat):=match o.dst,o.op,o.guard with
 | none,.store t (.tmp x) (.tmp y),none=>some (t,x,y)
 | _,_,_=>none
def B0c (o:Oper):Option (Nat×Nat×Nat):=match o.dst,o.op,o.guard with
 | some d,.load t (.tmp x),none=>some (d,t,x)
 | _,_,_=>none
def B0d (o:Oper):Option (Nat×Nat×Nat):=match o.dst,o.op,o.guard with
 | some d,.call { callee:=.value (.func f),args:=⟨[.tmp x]⟩,.. },none=>some (d,f,x)
 | _,_,_=>none
def B0e (o:Oper):Option (Nat×Nat×Nat×Nat):=match o.dst,o.op,o.guard with
 | none,.mapUpdate t (.tmp x) (.tmp i) (.tmp y),none=>some (t,x,i,y)
 | _,_,_=>none
section
variable {o:Oper}
variable {d t x y:Nat}
theorem Sh (h:B05 o=some (d,x)):O7 o (some d) (.move (.tmp x)):=by unfold B05 at h;split at h<;>cases h;exact⟨‹_›,‹_›,‹_›⟩
theorem A7p (h:B06 o=some (d,x)):O7 o (some d) (.assign (.tmp x)):=by unfold B06 at h;split at h<;>cases h;exact⟨‹_›,‹_›,‹_›⟩
theorem A7q (h:B07 o=some (d,t,x)):O7 o (some d) (.range t (.tmp x)):=by unfold B07 at h;split at h<;>cases h;exact⟨‹_›,‹_›,‹_›⟩
theorem A7r (h:B08 o=some (d,x)):O7 o (some d) (.next (.tmp x) false):=by unfold B08 at h;split at h<;>cases h;exact⟨‹_›,‹_›,‹_›⟩
theorem Ml {k:Nat} (h:Xe o=some (d,x,k)):O7 o (some d) (.extract (.tmp x) k):=by unfold Xe at h;split at h<;>cases h;exact⟨‹_›,‹_›,‹_›⟩
theorem A7s (h:B09 o=some (d,x)):O7 o (some d) (.entry (.tmp x)):=by unfold B09 at h;split at h<;>cases h;exact⟨‹_›,‹_›,‹_›⟩
theorem A7t (h:B0a o=some (d,t)):O7 o (some d) (.alloc t):=by unfold B0a at h;split at h<;>cases h;exact⟨‹_›,‹_›,‹_›⟩
theorem A7u (h:B0b o=some (t,x,y)):O7 o none (.store t (.tmp x) (.tmp y)):=by unfold B0b at h;split at h<;>cases h;exact⟨‹_›,‹_›,‹_›⟩
theorem A7v (h:B0c o=some (d,t,x)):O7 o (some d) (.load t (.tmp x)):=by unfold B0c at h;split at h<;>cases h;exact⟨‹_›,‹_›,‹_›⟩
theorem A7w {f:Nat} (h:B0d o=some (d,f,x)):∃ ts,O7 o (some d) (.call { callee:=.value (.func f),args:=#[.tmp x],argTypes:=ts }):=by unfold B0d at h;split at h<;>cases h;exact⟨_,‹_›,‹_›,‹_›⟩
theorem A7x {i:Nat} (h:B0e o=some (t,x,i,y)):O7 o none (.mapUpdate t (.tmp x) (.tmp i) (.tmp y)):=by unfold B0e at h;split at h<;>cases h;exact⟨‹_›,‹_›,‹_›⟩
end
section
variable {A:Alg}
def asV (f:Nat) (vc:Ty):Sg A->Option (A.I vc->A.M vc)
 | ⟨fid,[.d c0 i0],[],[c1],[c2],.d c3 i3,[],run⟩=>bif Nat.beq fid f&&Nat.beq i0 0&&Nat.beq i3 1&&decide (c0=vc)&&decide (c3=vc) then
   match instDecidableEqTy c1 vc,instDecidableEqTy c2 vc with
   | .isTrue h1,.isTrue h2=>some λx=>cast (congrArg A.M h2) (run (cast (congrArg A.I h1.symm) x))
   | _,_=>none
  else none
 | _=>none
def A3a (f:Nat) (vc:Ty):List (Sg A)->Option (A.I vc->A.M vc)
 | []=>none
 | g :: l=>match asV f vc g with
  | some h=>some h
  | none=>A3a f vc l
def B0f (P:Program) (Γ:List (Sg A)) (N:Nat) (T:Tpl) (S:St A) (r:Ty) (k:St A->A.M r) (a0 mt et fid:Nat) (ts:List Nat) (t9:List Nat):A.M r :=
 bif T.good&&Jd [] T.E T.O&&Y0 (B8 T.E)&&Y0 (B8 T.O)&&(ts.all λt=>(A1 T.E t).isNone&&Nat.blt t N)&&Y0 (t9++[a0])&&(A1 T.O T.nx).isNone&&(A1 T.O (T.nx+1)).isNone&&Nat.ble 1000 T.nx then
  match A1 T.E a0,P.underlying mt with
  | some (.mref nm),some (.map kt vt)=>match A1 T.O nm with
   | some (.map kc vc i)=>match A3a fid vc Γ with
    | some h=>bif Oy P kt kc&&(P.underlying kt).isSome&&vc.dat false&&tyB P et vc.sz vc.agg&&zB P et (.d (vc.enc vc.zero))&&fnB P fid then
      Nu S T r λs0 =>
       let S1:=T.inst S.L s0
       A.bind (.list (.st (.pr kc vc))) r (A.mapE kc vc (S1.lv (.list (.st (.pr kc vc))) i) h) λl=>k { S1 with O:=(nm,some (.map kc vc S1.nl)) :: S1.O,L:=St.pushL S1.nl [⟨.list (.st (.pr kc vc)),l⟩] S1.L,nl:=S1.nl+1 }
     else A.fail r "each"
    | none=>A.fail r "each"
   | _=>A.fail r "each"
  | _,_=>A.fail r "each"
 else A.fail r "each"
def B0g (P:Program) (Γ:List (Sg A)) (N:Nat) (T:Tpl) (S:St A) (r:Ty) (k:St A->A.M r):Code->A.M r
 | .seq (.region _ ⟨[o1,o2]⟩ false) (.block b1 (.loop (.seq (.region _ ⟨[o3,o4]⟩ false) (.seq (.cond (.tmp t4) .skip (.exit b2)) (.block _ (.seq (.region _ ⟨[o5,o6,o7,o8,o9,o10]⟩ false) (.region _ ⟨[o11,o12,o13,o14,o15]⟩ false))))))) =>
  match B05 o1,B07 o2,B08 o3,Xe o4,B09 o5,Xe o6,Xe o7,B0a o8 with
  | some (a1,a0),some (a2,mt,x2),some (a3,x3),some (a4,x4,k4),some (a5,x5),some (a6,x6,k6),some (a7,x7,k7),some (a8,et)=>match B06 o9,B0b o10,B05 o11,B05 o12,B0c o13,B0d o14,B0e o15 with
   | some (a9,x9),some (e10,x10,y10),some (a10,x11),some (a11,x12),some (a12,e13,x13),some (a13,fid,x14),some (m15,x15,i15,y15) =>
    bif @BEq.beq (List Nat) _ [x2,x3,x4,t4,b2,x5,x6,x7,x9,x10,y10,x11,x12,x13,x14,x15,i15,y15,k4,k6,k7,e10,e13,m15] [a1,a2,a3,a4,b1,a2,a5,a5,a6,a8,a7,a0,a9,a8,a12,a10,a11,a13,0,0,1,et,et,mt] then
     B0f P Γ N T S r k a0 mt et fid [a2,a1,a13,a12,a11,a10,a9,a8,a7,a6,a5,a4,a3] [a13,a12,a11,a10,a9,a8,a7,a6,a5,a4,a3,a2,a1]
    else A.fail r "each"
   | _,_,_,_,_,_,_=>A.fail r "each"
  | _,_,_,_,_,_,_,_=>A.fail r "each"
 | _=>A.fail r "each"
end
section
variable {P:Program} {B:D5} {N:Nat}
variable {Q:Exit->EL->OL->Prop} {Γ:List (Sg typ)} {S:St typ} {r:Ty} {k:St typ->Option r.T} {y:r.T}
theorem B5n {f:Nat} {vc:Ty} {g:Sg typ} {h:vc.T->Option vc.T} (e:asV f vc g=some h) (hg:COk P g):∀ x r,h x=some r->AC P f [.d (vc.enc x)] [] (.d (vc.enc r)) []:=by
 unfold asV at e;split at e
 ·rename_i fid c0 i0 c1 c2 c3 i3 run;cases hb:Nat.beq fid f&&Nat.beq i0 0&&Nat.beq i3 1&&decide (c0=vc)&&decide (c3=vc) with
  | false=>rw [hb] at e;cases e
  | true =>
   rw [hb,cond_true] at e;simp only [Bool.and_eq_true,decide_eq_true_eq] at hb;obtain⟨⟨⟨⟨h1,h2⟩,h3⟩,rfl⟩,rfl⟩:=hb;have:=Nat.eq_of_beq_eq_true h1;subst this;have:=Nat.eq_of_beq_eq_true h2;subst this;have:=Nat.eq_of_beq_eq_true h3;subst this;split at e
   ·rename_i k1 k2 _ _;subst k1;subst k2;cases e;intro x r hr;have h:AC P fid [.d (Ty.enc _ (N7 (C4 typ [_] x) _ 0))] [] (.d (Ty.enc _ (N7 (C4 typ [_] x++C4 typ [_] r) _ 1))) []:=hg x r hr;rw [Kt (k:=0) (x:=x) rfl,Kt (k:=1) (x:=r) rfl] at h;exact h
   ·cases e
 ·cases e
theorem Wa {f:Nat} {vc:Ty} {h:vc.T->Option vc.T}:∀ {Γ:List (Sg typ)},(∀ g∈Γ,COk P g)->A3a f vc Γ=some h->∀ x r,h x=some r->AC P f [.d (vc.enc x)] [] (.d (vc.enc r)) []
 | g :: l,hΓ,e=>by
  unfold A3a at e;split at e
  ·rename_i h' hh;cases e;exact B5n hh (hΓ g (List.mem_cons_self ..))
  ·exact Wa (λg hg=>hΓ g (List.mem_cons_of_mem _ hg)) e
theorem Hr {α:Type} {k:Nat} {x:α}:∀ {l:List (Nat×α)},Y0 (B8 l)=true->(k,x)∈l->A1 l k=some x
 | (m,y) :: l,hu,h=>by
  simp only [B8,List.map_cons,Y0,Bool.and_eq_true,Bool.not_eq_true'] at hu;rw [A4];rcases List.mem_cons.1 h with e | h
  ·cases e;rw [if_pos rfl]
  ·rw [if_neg λe=>by
    subst e;have:memB m (l.map (·.1))=true:=Ar (List.mem_map.2 ⟨(m,x),h,rfl⟩);rw [hu.1] at this;cases this]
   exact Hr hu.2 h
theorem A2m {n:Nat}:∀ {l:List Nat},memB n l=true->n∈l
 | m :: l,h=>by
  simp only [memB,Bool.or_eq_true] at h;rcases h with h | h
  ·rw [Nat.eq_of_beq_eq_true h];exact List.mem_cons_self ..
  ·exact List.mem_cons_of_mem _ (A2m h)
theorem Gr {α:Type} {n:Nat} {p:Nat×α}:∀ {l:List (Nat×α)},p∈T3 n l->p∈l∧p.1≠n
 | (j,o) :: l,h=>by
  simp only [T3] at h;cases hj:Nat.beq j n with
  | true =>
   rw [hj] at h;obtain⟨h1,h2⟩:=Gr h;exact⟨List.mem_cons_of_mem _ h1,h2⟩
  | false =>
   rw [hj,cond_false] at h;rcases List.mem_cons.1 h with rfl | h
   ·exact⟨List.mem_cons_self ..,λe=>by subst e;simp at hj⟩
   ·obtain⟨h1,h2⟩:=Gr h;exact⟨List.mem_cons_of_mem _ h1,h2⟩
theorem Qk {α:Type} {n m:Nat}:∀ {l:List (Nat×α)},m∈B8 l->m∈n :: B8 (T3 n l)
 | (j,o) :: l,h=>by
  simp only [T3];rcases List.mem_cons.1 h with e | h
  ·cases e;cases hj:Nat.beq j n with
   | true=>rw [Nat.eq_of_beq_eq_true hj];exact List.mem_cons_self ..
   | false=>exact List.mem_cons_of_mem _ (List.mem_cons_self ..)
  ·have:=Qk (n:=n) h;cases hj:Nat.beq j n with
   | true=>exact this
   | false =>
    rcases List.mem_cons.1 this with e | h
    ·rw [e];exact List.mem_cons_self ..
    ·exact List.mem_cons_of_mem _ (List.mem_cons_of_mem _ h)
theorem Ay {α:Type} {n:Nat}:∀ {l:List (Nat×α)},A1 (T3 n l) n=none
 | []=>rfl
 | (j,o) :: l=>by
  simp only [T3];cases hj:Nat.beq j n with
  | true=>exact Ay
  | false =>
   rw [cond_false,A4,if_neg (λe=>by subst e;simp at hj)];exact Ay
theorem A7y [Hid] (hΓ:∀ g∈Γ,COk P g) (hB:B.ok) (hN:B.N=N) {T:Tpl} (hS:S.ok) (hb:T.base=S.nl) (hs:∀ e E E' O O',Mat B E O E' O'->Q e E' O'->Q e E O) (hk:∀ S',S'.ok->H1 S S'->k S'=some y->Q .normal S'.e S'.o) {ts:Array TypeId} {mt et fid a0 a1 a2 a3 a4 a5 a6 a7 a8 a9 a10 a11 a12 a13 b1 b3 r1 r2 r3 r4:Nat} {o1 o2 o3 o4 o5 o6 o7 o8 o9 o10 o11 o12 o13 o14 o15:Oper} (i1:O7 o1 (some a1) (.move (.tmp a0))) (i2:O7 o2 (some a2) (.range mt (.tmp a1))) (i3:O7 o3 (some a3) (.next (.tmp a2) false)) (i4:O7 o4 (some a4) (.extract (.tmp a3) 0)) (i5:O7 o5 (some a5) (.entry (.tmp a2))) (i6:O7 o6 (some a6) (.extract (.tmp a5) 0)) (i7:O7 o7 (some a7) (.extract (.tmp a5) 1)) (i8:O7 o8 (some a8) (.alloc et)) (i9:O7 o9 (some a9) (.assign (.tmp a6))) (i10:O7 o10 none (.store et (.tmp a8) (.tmp a7))) (i11:O7 o11 (some a10) (.move (.tmp a0))) (i12:O7 o12 (some a11) (.move (.tmp a9))) (i13:O7 o13 (some a12) (.load et (.tmp a8))) (i14:O7 o14 (some a13) (.call { callee:=.value (.func fid),args:=#[.tmp a12],argTypes:=ts })) (i15:O7 o15 none (.mapUpdate mt (.tmp a10) (.tmp a11) (.tmp a13))) (h:B0f (A:=typ) P Γ N T S r k a0 mt et fid [a2,a1,a13,a12,a11,a10,a9,a8,a7,a6,a5,a4,a3] [a13,a12,a11,a10,a9,a8,a7,a6,a5,a4,a3,a2,a1]=some y) :
  AWp P B (.seq (.region r1 [o1,o2].toArray false) (.block b1 (.loop (.seq (.region r2 [o3,o4].toArray false) (.seq (.cond (.tmp a4) .skip (.exit b1)) (.block b3 (.seq (.region r3 [o5,o6,o7,o8,o9,o10].toArray false) (.region r4 [o11,o12,o13,o14,o15].toArray false)))))))) Q S.e S.o:=by
 unfold B0f at h;cases hc:T.good&&Jd [] T.E T.O&&Y0 (B8 T.E)&&Y0 (B8 T.O)&&([a2,a1,a13,a12,a11,a10,a9,a8,a7,a6,a5,a4,a3].all λt=>(A1 T.E t).isNone&&Nat.blt t N)&&Y0 ([a13,a12,a11,a10,a9,a8,a7,a6,a5,a4,a3,a2,a1]++[a0])&&(A1 T.O T.nx).isNone&&(A1 T.O (T.nx+1)).isNone&&Nat.ble 1000 T.nx with
 | false=>rw [hc] at h;cases h
 | true =>
  rw [hc,cond_true] at h;split at h
  ·rename_i nm kt vt h0 hu;split at h
   ·rename_i kc vc i hn;split at h
    ·rename_i step hstep;cases hb2:Oy P kt kc&&(P.underlying kt).isSome&&vc.dat false&&tyB P et vc.sz vc.agg&&zB P et (.d (vc.enc vc.zero))&&fnB P fid with
     | false=>rw [hb2] at h;cases h
     | true =>
      rw [hb2,cond_true] at h;simp only [Bool.and_eq_true,List.all_eq_true] at hc hb2;obtain⟨⟨⟨⟨⟨⟨⟨⟨c1,c2⟩,c3⟩,c4⟩,c5⟩,c6⟩,c7⟩,c8⟩,c9⟩:=hc;obtain⟨⟨⟨⟨⟨d1,d2⟩,d3⟩,d4⟩,d5⟩,d6⟩:=hb2;obtain⟨kd,hkd⟩:=Option.isSome_iff_exists.1 d2;obtain⟨s0,hm,m0⟩:=Cc hB hS (H1.refl _) (Nat.le_of_eq hb) h;refine AWp.ghost m0 ?_;simp only at hm;obtain⟨L',hL,hfin⟩:=Option.bind_eq_some_iff.1 hm;have lo:∀ n,A1 (T.inst (A:=typ) S.L s0).o n=(A1 T.O n).map λb=>some (b.o (T.inst (A:=typ) S.L s0).lv):=λn=>by
       rw [F4];show Option.map _ (A1 (T.O.map λp=>(p.1,some p.2)) n)=_;rw [N4 some];cases A1 T.O n<;>rfl
      have le:=λt=>K8 (T.inst (A:=typ) S.L s0) t;have hnm:A1 (T.inst (A:=typ) S.L s0).o nm=some (some (.blk (Y3 (D4 kc.enc vc.enc ((T.inst (A:=typ) S.L s0).lv (.list (.st (.pr kc vc))) i))))):=by rw [lo,hn];rfl
      have ne1:T.nx≠nm:=λe=>by rw [e,hn] at c7;cases c7
      have ne2:T.nx+1≠nm:=λe=>by rw [e,hn] at c8;cases c8
      have lt:∀ t∈[a2,a1,a13,a12,a11,a10,a9,a8,a7,a6,a5,a4,a3],t<B.N:=λt ht=>by
       rw [hN];exact TV.C2 (c5 t ht).2
      have kp0:=Qh (f:=(T.inst (A:=typ) S.L s0).lv) c2;have ks:∀ {n:Nat},memB n (B8 (T.inst (A:=typ) S.L s0).o)=true->n∈nm :: B8 (T3 nm (T.inst (A:=typ) S.L s0).o):=λh=>Qk (A2m h);have keep:B79 (T.inst (A:=typ) S.L s0).e (T3 nm (T.inst (A:=typ) S.L s0).o) T.nx nm (T.nx+1) [a2,a1,a13,a12,a11,a10,a9,a8,a7,a6,a5,a4,a3]:=by
       refine⟨λp hp => ?_,λt ht => ?_,λp hp => ?_,?_,Ay,?_,⟨ne1,by omega,ne2⟩,?_⟩
       ·obtain⟨q,hq,rfl⟩:=List.mem_map.1 hp;rw [le];show Option.map _ (A1 T.E q.1)=_;rw [Hr (k:=q.1) (x:=q.2) c3 hq];rfl
       ·rw [le];show Option.map _ (A1 T.E t)=_;rw [Option.isNone_iff_eq_none.1 (c5 t ht).1];rfl
       ·obtain⟨h1,h2⟩:=Gr hp;rw [Q9 h2,lo];obtain⟨q,hq,rfl⟩:=List.mem_map.1 h1;obtain⟨u,hu2,rfl⟩:=List.mem_map.1 (show q∈T.O.map λp=>(p.1,some p.2) from hq);rw [Hr (k:=u.1) (x:=u.2) c4 hu2];rfl
       ·rw [Q9 ne1,lo,Option.isNone_iff_eq_none.1 c7];rfl
       ·rw [Q9 ne2,lo,Option.isNone_iff_eq_none.1 c8];rfl
       ·unfold Dl at kp0;simp only [Bool.and_eq_true,List.all_eq_true] at kp0;refine⟨λp hp n hn=>ks (kp0.1.1.1 p hp n hn),λq o hq n hn=>ks ?_⟩;have:=kp0.1.1.2 _ (Gr hq).1;exact List.all_eq_true.1 this n hn
      have hd:[a13,a12,a11,a10,a9,a8,a7,a6,a5,a4,a3,a2,a1,a0].Nodup:=Jz c6;have e0:A1 (T.inst (A:=typ) S.L s0).e a0=some (.mref nm):=by rw [le];show Option.map _ (A1 T.E a0)=_;rw [h0];rfl
      have ok1:(T.inst (A:=typ) S.L s0).ok:=by
       unfold Tpl.good at c1;rw [Bool.and_eq_true] at c1;exact c1
      have x1:H1 S (T.inst (A:=typ) S.L s0):=⟨by show S.nl<=T.base+_;omega,λc i hi=>Db _ _ _ _ _ (by rw [hb];exact hi)⟩;generalize hS1:T.inst (A:=typ) S.L s0=S1 at *;intro a w σ Z s;obtain⟨b,hb',hSb⟩:=s.obj nm _ hnm;obtain⟨l0,p1,p2,ents,c,hw,hl,hst⟩:=Y3.lift hSb;obtain⟨l0',q1,q2⟩:=A54 p1 hL;have s1:=s.reB hnm (T:=mapS b c (ents.toList.map (·.born)) (D4 kc.enc vc.enc l0)) (λb' hb2 _=>by
       have:b=b':=Option.some.inj (hb'.symm.trans hb2);subst this;exact⟨rfl,ents,hw,hl,hst,rfl⟩)
      have ub:∀ X:Ob,B9 (A1 S1.o) nm (some X)=A1 ((nm,some X) :: T3 nm S1.o):=λX=>by
       funext n;unfold B9;rw [A4]
       by_cases h:n=nm
       ·rw [if_pos h,if_pos h.symm]
       ·rw [if_neg h,if_neg (Ne.symm h),Q9 h]
      rw [ub] at s1;refine(show AWp P B _ Q S1.e ((nm,some (.blk (mapS b c (ents.toList.map (·.born)) (D4 kc.enc vc.enc l0)))) :: T3 nm S1.o) from ?_) a w σ Z s1;obtain⟨dd3,op3,ty3,pos3,af3,g3⟩:=o3;obtain⟨dd4,op4,ty4,pos4,af4,g4⟩:=o4;obtain⟨j1,j2,j3⟩:=i3;cases j1;cases j2;cases j3;obtain⟨j1,j2,j3⟩:=i4;cases j1;cases j2;cases j3;have hbn:(ents.toList.map (·.born)).length=l0.length:=by rw [List.length_map];have:=hl.len;simpa [D4] using this
      let S2:St typ:={ S1 with O:=(nm,some (.map kc vc S1.nl)) :: S1.O,L:=St.pushL S1.nl [⟨.list (.st (.pr kc vc)),L'⟩] S1.L,nl:=S1.nl+1 }
      have x2:H1 S1 S2:=⟨Nat.le_succ _,λc i hi=>D8 (lf:=[⟨.list (.st (.pr kc vc)),L'⟩]) c i hi⟩;have ok2:S2.ok:=⟨U1 (Nat.le_succ _) ok1.1,by
       show(Nat.blt S1.nl (S1.nl+1)&&St.ltO (S1.nl+1) S1.O)=true;rw [TV.I7 (Nat.lt_succ_self _),J9 (Nat.le_succ _) ok1.2];rfl⟩
      have eE:S2.e=S1.e:=Gd x2.lv ok1.1;have eO:A1 S2.o=A1 ((nm,some (.blk (Y3 (D4 kc.enc vc.enc L')))) :: T3 nm S1.o):=by
       funext n;have:S2.o=(nm,some (.blk (Y3 (D4 kc.enc vc.enc L')))) :: S1.o:=by
        show(nm,some ((TOb.map kc vc S1.nl).o (S1.push [⟨.list (.st (.pr kc vc)),L'⟩]))) :: oOf S2.lv S1.O=_;rw [Lw,Da x2.lv ok1.2];rfl
       rw [this,A4,A4]
       by_cases h:nm=n
       ·rw [if_pos h,if_pos h]
       ·rw [if_neg h,if_neg h,Q9 (Ne.symm h)]
      have hround:=λ(seen:Array Nat) (cur:List (kc.T×vc.T)) (j s:Nat) (p:kc.T×vc.T) (v:vc.T) (hj:cur[j]? = some p) (hs:(ents.toList.map (·.born))[j]? = some s) (hv:step p.2=some v) (hk:cur.map (·.1)=l0.map (·.1)) =>
       A56 (m:=b) (c:=c) (b3:=b3) (r3:=r3) (r4:=r4) (seen:=seen) hB i5 i6 i7 i8 i9 i10 i11 i12 i13 i14 i15 keep hd (λt ht=>lt t (List.mem_cons_of_mem _ (List.mem_cons_of_mem _ (List.mem_append_left [a4,a3] ht)))) e0 (Nat.le_succ_of_le (Nat.le_of_ble_eq_true c9)) hu hkd (Ry d1) (Dc d5) (F0 d4) (λy=>⟨Ty.D7 d3 y,Ty.O4 d3 y⟩) (Sb d6) p2 (Wa hΓ hstep p.2 v hv) hj hs hk
      refine sr (cg (i1.j (OpJ.move (v:=.mref nm) (lt a1 (by simp)) (q a0))) ?_ (cg (i2.j (OpJ.rangeS (nm:=nm) (m:=b) (c:=c) (bs:=ents.toList.map (·.born)) (ps:=D4 kc.enc vc.enc l0) hB hu (Nat.le_of_ble_eq_true c9) ne1 (lt a2 (by simp)) (q a1))) ?_ cn)) (AWp.block ?_)
      rotate_left 2
      ·refine AWp.loopEa (f:=kc.enc) (g:=vc.enc) (h:=step) (pe:=(a2,V.ptr T.nx 0 []) :: (a1,.mref nm) :: S1.e) (po:=T3 nm S1.o) (it:=T.nx) (lt a3 (by simp)) (lt a4 (by simp)) ne1 (by rw [A4,if_pos rfl]) hbn hst.apart q1 hround λseen => ?_;simp only [A07,if_true];refine hs _ _ _ _ _ ?_ (hk S2 ok2 (x1.trans x2) hfin);refine(kp (S1.e) ((nm,some (.blk (mapS b c (ents.toList.map (·.born)) (D4 kc.enc vc.enc l0')))) :: T3 nm S1.o) hB ?_ ?_ (Qj keep.ok.1 λq o hq n hn => ?_)).trans λa w σ Z s=>⟨σ,Z,?_⟩
       ·rw [Lo,Ey];refine List.map_congr_left λp hp => ?_;have hl:=keep.e0 p hp;have hne:∀ t∈[a2,a1,a13,a12,a11,a10,a9,a8,a7,a6,a5,a4,a3],t≠p.1:=λt ht e=>by rw [<- e,keep.e1 t ht] at hl;cases hl
        simp only [Nl,A4];rw [if_neg (hne a4 (by simp)),if_neg (hne a3 (by simp)),if_neg (hne a2 (by simp)),if_neg (hne a1 (by simp))];exact hl
       ·refine List.map_congr_left λp hp => ?_;rcases List.mem_cons.1 hp with rfl | hp
        ·exact Vz ne1
        ·have hl:=keep.o0 p hp;simp only [Q5,A4];rw [if_neg (λe=>by rw [<- e,keep.n1] at hl;cases hl),if_neg (λe=>by rw [<- e,keep.n2] at hl;cases hl)];exact hl
       ·rcases List.mem_cons.1 hq with e | hq
        ·cases e;cases hn
        ·exact keep.ok.2 q o hq n hn
       ·have s2:=s.reB (n:=nm) (S:=mapS b c (ents.toList.map (·.born)) (D4 kc.enc vc.enc l0')) (by rw [A4,if_pos rfl]) (T:=Y3 (D4 kc.enc vc.enc L')) (λb' _ ⟨_,ents,h1,h2,h3,_⟩=>Y3.of q2 (by
         unfold dn at p2 ⊢;have e1:∀ l:List (kc.T×vc.T),l.map (λp=>kc.enc p.1)=(l.map (·.1)).map kc.enc:=λl=>by rw [List.map_map];rfl
         rw [e1,Qi q1,<- e1];exact p2) ⟨ents,c,h1,h2,h3⟩)
        rw [eE,eO];have:B9 (A1 ((nm,some (Ob.blk (mapS b c (ents.toList.map (·.born)) (D4 kc.enc vc.enc l0')))) :: T3 nm S1.o)) nm (some (.blk (Y3 (D4 kc.enc vc.enc L'))))=A1 ((nm,some (.blk (Y3 (D4 kc.enc vc.enc L')))) :: T3 nm S1.o):=by
         funext n;unfold B9;simp only [A4]
         by_cases h:n=nm
         ·rw [if_pos h,if_pos h.symm]
         ·rw [if_neg h,if_neg (Ne.symm h),if_neg (Ne.symm h)]
        rw [this] at s2;exact s2
      ·simp [rE,rE',rO,rO',rF,rF',A4,e0]
      ·have hn3:A1 (T3 nm S1.o) T.nx=none:=keep.n1;simp [rE,rE',rO,rO',rF,rF',ap,A4,Ne.symm ne1,hn3]
    ·cases h
   ·cases h
  ·cases h
theorem A7z [Hid] (hΓ:∀ g∈Γ,COk P g) (hB:B.ok) (hN:B.N=N) {T:Tpl} (hS:S.ok) (hb:T.base=S.nl) (hs:∀ e E E' O O',Mat B E O E' O'->Q e E' O'->Q e E O) (hk:∀ S',S'.ok->H1 S S'->k S'=some y->Q .normal S'.e S'.o) {c:Code} (h:B0g (A:=typ) P Γ N T S r k c=some y):AWp P B c Q S.e S.o:=by
 unfold B0g at h;split at h
 ·rename_i r1 o1 o2 b1 r2 o3 o4 t4 b2 b3 r3 o5 o6 o7 o8 o9 o10 r4 o11 o12 o13 o14 o15;split at h
  ·rename_i a1 a0 a2 mt x2 a3 x3 a4 x4 k4 a5 x5 a6 x6 k6 a7 x7 k7 a8 et h1 h2 h3 h4 h5 h6 h7 h8;split at h
   ·rename_i a9 x9 e10 x10 y10 a10 x11 a11 x12 a12 e13 x13 a13 fid x14 m15 x15 i15 y15 h9 h10 h11 h12 h13 h14 h15;cases hq:@BEq.beq (List Nat) _ [x2,x3,x4,t4,b2,x5,x6,x7,x9,x10,y10,x11,x12,x13,x14,x15,i15,y15,k4,k6,k7,e10,e13,m15] [a1,a2,a3,a4,b1,a2,a5,a5,a6,a8,a7,a0,a9,a8,a12,a10,a11,a13,0,0,1,et,et,mt] with
    | false=>rw [hq] at h;cases h
    | true =>
     rw [hq,cond_true] at h;have e:=eq_of_beq hq;simp only [List.cons.injEq,and_true] at e;obtain⟨rfl,rfl,rfl,rfl,rfl,rfl,rfl,rfl,rfl,rfl,rfl,rfl,rfl,rfl,rfl,rfl,rfl,rfl,rfl,rfl,rfl,rfl,rfl,rfl⟩:=e;obtain⟨ts,h14⟩:=A7w h14;exact A7y hΓ hB hN hS hb hs hk (Sh h1) (A7q h2) (A7r h3) (Ml h4) (A7s h5) (Ml h6) (Ml h7) (A7t h8) (A7p h9) (A7u h10) (Sh h11) (Sh h12) (A7v h13) h14 (A7x h15) h
   ·cases h
  ·cases h
 ·cases h
end
end Go.Vc
namespace Go.Vc
open Go
structure Tv where
 kt:List Nat:=[]
 vt:List (Nat×TV):=[]
 ko:List Nat:=[]
 vo:List (Nat×TOb):=[]
 cs:List Ty:=[]
 dn:Nat:=0
inductive H
 | o
 | s (a b:H)
 | j (T:Tv) (h:H)
 | l (T:Tv) (X:List (Exit×Tv)) (h:H)
 | i (fr ims:List Nat)
 | p (g:Nat) (a b:H)
 | q (n:Nat) (fr ims:List Nat)
def TV.mp (f:Nat->Nat):TV->TV
 | d c i=>d c (f i)
 | eptr n sz k i o p=>eptr n sz k (f i) o p
 | aptr n o p k i sz=>aptr n o p k (f i) sz
 | dptr c i=>dptr c (f i)
 | sref n c j=>sref n c (f j)
 | qref n j=>qref n (f j)
 | qptr n k i=>qptr n k (f i)
 | tref n c i j=>tref n c (f i) (f j)
 | func g caps=>func g (caps.mp f)
 | st fs=>st (fs.mp f)
 | tup xs=>tup (xs.mp f)
 | opt g w x=>opt (f g) w (x.mp f)
 | alt g x y=>alt (f g) (x.mp f) (y.mp f)
 | cons a b=>cons (a.mp f) (b.mp f)
 | x=>x
def TOb.mp (f:Nat->Nat):TOb->TOb
 | box t x=>box t (x.mp f)
 | row e c i=>row e c (f i)
 | map kc vc i=>map kc vc (f i)
 | glob g c i=>glob g c (f i)
 | vrow e c j pos x=>vrow e c (f j) pos (x.mp f)
 | qrow e j=>qrow e (f j)
def H.fst:H->H
 | .s a _=>a
 | _ => .o
def H.snd:H->H
 | .s _ b=>b
 | _ => .o
section
variable {A:Alg}
def B0h (S:St A):List Nat->List (Nat×TV)
 | []=>[]
 | t :: l=>match A1 S.E t with
  | some x=>(t,x) :: B0h S l
  | none=>B0h S l
def B0i (S:St A):List Nat->List (Nat×TOb)
 | []=>[]
 | n :: l=>match A1 S.O n with
  | some (some x)=>(n,x) :: B0i S l
  | _=>B0i S l
def mkT (S:St A) (h:Tv):Tpl :=
 let f:=λi=>bif Nat.blt i 1000000 then S.nl+i else i-1000000
 { E:=(h.vt.map λp=>(p.1,p.2.mp f))++B0h S h.kt,O:=(h.vo.map λp=>(p.1,p.2.mp f))++B0i S h.ko,base:=S.nl,cs:=h.cs,nx:=S.nx+h.dn }
def exB:Exit->Exit->Bool
 | .normal,.normal=>true
 | .ret,.ret=>true
 | .exit i,.exit j=>Nat.beq i j
 | _,_=>false
def jw (h:H) (S:St A) (r:Ty) (k:Exit->St A->A.M r) (body:H->(Exit->St A->A.M r)->A.M r):A.M r :=
 match h with
 | .j T h'=>let T0:=mkT S T
  bif T0.good then A.jn (J3 T0.cs) r (λm=>k .normal (T0.inst S.L m)) λt=>body h' λe S'=>match e with
   | .normal=>Nu S' T0 r t
   | e=>k e S'
  else A.fail r "join"
 | h=>body h k
def exT (S:St A):List (Exit×Tv)->Ty
 | [] => .nil
 | [(_,T)]=>J3 T.cs
 | (_,T) :: q :: l => .sum (J3 T.cs) (exT S (q :: l))
def exM (S:St A) (e:Exit) (S':St A) (r:Ty):(X:List (Exit×Tv))->(A.I (exT S X)->A.M r)->A.M r
 | [],_=>A.fail r "way out"
 | [(e',T)],k=>bif exB e e'&&(mkT S T).good then Nu S' (mkT S T) r k else A.fail r "way out"
 | (e',T) :: q :: l,k=>bif exB e e'&&(mkT S T).good then Nu S' (mkT S T) r (λv=>k (A.inl (J3 T.cs) (exT S (q :: l)) v)) else exM S e S' r (q :: l) λv=>k (A.inr (J3 T.cs) (exT S (q :: l)) v)
def exK (S:St A) (r:Ty) (k:Exit->St A->A.M r):(X:List (Exit×Tv))->A.I (exT S X)->A.M r
 | [],_=>A.fail r "way out"
 | [(e,T)],v=>k e ((mkT S T).inst S.L v)
 | (e,T) :: q :: l,v=>A.case (J3 T.cs) (exT S (q :: l)) r v (λa=>k e ((mkT S T).inst S.L a)) λb=>exK S r k (q :: l) b
def St.frzs (S:St A):List Nat->Option (St A)
 | []=>some S
 | n :: l=>match S.act (.frz n) with
  | some S'=>S'.frzs l
  | none=>none
def A16 (P:Program) (Γ:List (Sg A)) (N:Nat) (ops:List Oper) (draw:Bool) (r:Ty) (k:Exit->St A->A.M r):H->St A->A.M r
 | .p g a b,S=>A.ite r (S.lv .bool g) (A16 P Γ N ops draw r k a (S.rs g true)) (A16 P Γ N ops draw r k b (S.rs g false))
 | .i fr ims,S=>match S.frzs fr with
  | some S'=>A15 P Γ N ops draw ims r S' λS''=>k .normal S''
  | none=>A.fail r "freeze"
 | .q n fr ims,S=>match S.frzs fr with
  | some S'=>bif draw then A.fail r "draws" else B04 P Γ N ops.toArray ims r ops S' λS''=>match S''.toQ n with
   | some S3=>k .normal S3
   | none=>A.fail r "queue"
  | none=>A.fail r "freeze"
 | _,S=>A15 P Γ N ops draw [] r S λS''=>k .normal S''
def X8 (P:Program) (Γ:List (Sg A)) (N:Nat):Code->H->St A->(r:Ty)->(Exit->St A->A.M r)->A.M r
 | .skip,_,S,_,k=>k .normal S
 | .ret,_,S,_,k=>k .ret S
 | .exit id,_,S,_,k=>k (.exit id) S
 | .seq a b,h,S,r,k=>match h with
  | .l T _ _=>B0g P Γ N (mkT S T) S r (λS'=>k .normal S') (.seq a b)
  | h=>jw h.fst S r (λe S'=>match e with
   | .normal=>jw h.snd S' r k λh k=>X8 P Γ N b h S' r k
   | e=>k e S') λh k=>X8 P Γ N a h S r k
 | .cond (.tmp t) a b,h,S,r,k=>match A1 S.E t with
  | some (.kb true)=>jw h.fst S r k λh k=>X8 P Γ N a h S r k
  | some (.kb false)=>jw h.snd S r k λh k=>X8 P Γ N b h S r k
  | some (.d .bool i)=>A.ite r (S.lv .bool i) (jw h.fst (S.kn i true) r k λh k=>X8 P Γ N a h (S.kn i true) r k) (jw h.snd (S.kn i false) r k λh k=>X8 P Γ N b h (S.kn i false) r k)
  | some (.alt i (.kb q) (.cst 4))=>A.ite r (S.lv .bool i) (match q with
   | true=>jw h.fst S r k λh k=>X8 P Γ N a h S r k
   | false=>jw h.snd S r k λh k=>X8 P Γ N b h S r k) (A.both r (jw h.fst S r k λh k=>X8 P Γ N a h S r k) (jw h.snd S r k λh k=>X8 P Γ N b h S r k))
  | some (.cst 4)=>A.both r (jw h.fst S r k λh k=>X8 P Γ N a h S r k) (jw h.snd S r k λh k=>X8 P Γ N b h S r k)
  | _=>A.fail r "cond"
 | .cond (.const (.bool true)) a _,h,S,r,k=>jw h.fst S r k λh k=>X8 P Γ N a h S r k
 | .cond (.const (.bool false)) _ b,h,S,r,k=>jw h.snd S r k λh k=>X8 P Γ N b h S r k
 | .block id c,h,S,r,k=>jw h.fst S r (λe S'=>match e with
  | .exit j=>bif Nat.beq j id then k .normal S' else k (.exit j) S'
  | e=>k e S') λh k=>X8 P Γ N c h S r k
 | .loop c,.l T X hb,S,r,k =>
  let T0:=mkT S T
  bif T0.good then Nu S T0 r λs0 =>
   A.bind (exT S X) r (A.loop (J3 T0.cs) (exT S X) s0 λs =>
    jw hb (T0.inst S.L s) (.sum (exT S X) (J3 T0.cs)) (λe S'=>match e with
     | .normal=>Nu S' T0 (.sum (exT S X) (J3 T0.cs)) λs'=>A.ret (.sum (exT S X) (J3 T0.cs)) (A.inr (exT S X) (J3 T0.cs) s')
     | e=>exM S e S' (.sum (exT S X) (J3 T0.cs)) X λv=>A.ret (.sum (exT S X) (J3 T0.cs)) (A.inl (exT S X) (J3 T0.cs) v)) λh k=>X8 P Γ N c h (T0.inst S.L s) (.sum (exT S X) (J3 T0.cs)) k)
    λx=>exK S r k X x
  else A.fail r "loop"
 | .region _ ops draw,h,S,r,k=>A16 P Γ N ops.toList draw r k h S
 | _,_,_,r,_=>A.fail r "code"
end
section
variable {P:Program} {B:D5} {N:Nat}
variable {y:Code} {Q:Exit->EL->OL->Prop}
theorem Kw {T:Tpl} {L0:List (Nat×Lf typ)} {x:(J3 T.cs).T} (h:T.good=true):(T.inst (A:=typ) L0 x).ok:=by
 unfold Tpl.good at h;rw [Bool.and_eq_true] at h;exact⟨h.1,h.2⟩
theorem Gs {S:St typ} {h:Tv} {x:(J3 (mkT S h).cs).T}:H1 S ((mkT S h).inst (A:=typ) S.L x) :=
 ⟨Nat.le_add_right _ _,λc i hi=>Db _ _ _ _ _ hi⟩
theorem AWp.condU {E:EL} {O:OL} {t:Nat} {x:Code} (hc:A1 E t=some (.sat (Ox 0))) (h1:AWp P B x Q E O) (h2:AWp P B y Q E O):AWp P B (.cond (.tmp t) x y) Q E O:=λa w σ Z s=>by
 have hr:=Opd.tmp t (.sat (Ox 0)) B (A1 E) (A1 O) a w σ Z s (λp hp=>by simp at hp;subst hp;exact hc);obtain⟨v,hv,⟨b,hb⟩,_⟩:=And.left hr;have hv:a.eval (.tmp t) = .bool b:=by rw [<- hb];simpa using hv
 exact wp_cond_split hv (λ_=>h1 a w σ Z s) (λ_=>h2 a w σ Z s)
def KOk (S0:St typ) (r:Ty) (y:r.T) (k:Exit->St typ->Option r.T) (Q:Exit->EL->OL->Prop):Prop :=
 ∀ [Hid] e S',S'.ok->H1 S0 S'->k e S'=some y->Q e S'.e S'.o
theorem KOk.mono {S0 S1:St typ} {r:Ty} {y:r.T} {k:Exit->St typ->Option r.T} {Q:Exit->EL->OL->Prop} (h:KOk S0 r y k Q) (hx:H1 S0 S1):KOk S1 r y k Q:=@λi e S' ok x hk => @h i e S' ok (hx.trans x) hk
def Xf (B:D5) (Q:Exit->EL->OL->Prop):Prop:=∀ e E E' O O',Mat B E O E' O'->Q e E' O'->Q e E O
theorem A80 {e e':Exit} (h:exB e e'=true):e=e':=by
 unfold exB at h;split at h
 ·rfl
 ·rfl
 ·rw [Nat.eq_of_beq_eq_true h]
 ·cases h
theorem A81 [Hid] (hB:B.ok) {S S':St typ} {e:Exit} {r:Ty} {y:r.T} (ok:S'.ok) (hx:H1 S S'):∀ {X:List (Exit×Tv)} {k:(exT S X).T->Option r.T},exM (A:=typ) S e S' r X k=some y ->
  ∃ v,k v=some y∧∀ {r':Ty} {y':r'.T} {kk:Exit->St typ->Option r'.T} {Q:Exit->EL->OL->Prop},Xf B Q->KOk S r' y' kk Q->exK (A:=typ) S r' kk X v=some y'->Q e S'.e S'.o
 | [],k,h=>by cases h
 | [(e',T)],k,h=>by
  simp only [exM] at h;cases hb:exB e e'&&(mkT S T).good with
  | false=>rw [hb] at h;cases h
  | true =>
   rw [hb,cond_true] at h;rw [Bool.and_eq_true] at hb;obtain⟨x,h1,h2⟩:=Cc hB ok hx (Nat.le_refl _) h;refine⟨x,h1,fun {r' y' kk Q} hs hk hy => ?_⟩;have:=A80 hb.1;subst this;exact hs _ _ _ _ _ h2 (hk _ _ (Kw hb.2) Gs hy)
 | (e',T) :: q :: l,k,h=>by
  simp only [exM] at h;cases hb:exB e e'&&(mkT S T).good with
  | false =>
   rw [hb,cond_false] at h;obtain⟨v,h1,h2⟩:=A81 hB ok hx h;exact⟨.inr v,h1,fun {r' y' kk Q} hs hk hy=>h2 hs hk hy⟩
  | true =>
   rw [hb,cond_true] at h;rw [Bool.and_eq_true] at hb;obtain⟨x,h1,h2⟩:=Cc hB ok hx (Nat.le_refl _) h;refine⟨.inl x,h1,fun {r' y' kk Q} hs hk hy => ?_⟩;have:=A80 hb.1;subst this;exact hs _ _ _ _ _ h2 (hk _ _ (Kw hb.2) Gs hy)
theorem Si [Hid] (hB:B.ok):∀ {l:List Nat} {S S':St typ},S.ok->S.frzs l=some S'->Mat B S.e S.o S'.e S'.o∧S'.ok∧H1 S S'
 | [],S,S',hS,h=>by simp only [St.frzs,Option.some.injEq] at h;subst h;exact⟨Mat.refl,hS,H1.refl _⟩
 | a :: l,S,S',hS,h=>by
  simp only [St.frzs] at h;split at h
  ·rename_i S1 h1;obtain⟨m1,k1,x1⟩:=Zi hB hS h1;obtain⟨m2,k2,x2⟩:=Si hB k1 h;exact⟨m1.trans m2,k2,x1.trans x2⟩
  ·cases h
theorem A82 (h:Xf B Q):Xf B (B6t P B y Q):=λe E E' O O' m hq=>by
 cases e with
 | normal=>exact AWp.ghost m hq
 | _=>exact h _ _ _ _ _ m hq
theorem A83 {id:Nat} (h:Xf B Q):Xf B (A07 id Q):=λe E E' O O' m hq=>by
 cases e with
 | exit j =>
  simp only [A07] at hq ⊢;split at hq
  ·rename_i e;rw [if_pos e];exact h _ _ _ _ _ m hq
  ·rename_i e;rw [if_neg e];exact h _ _ _ _ _ m hq
 | _=>exact h _ _ _ _ _ m hq
def C0a (P:Program) (B:D5) (Γ:List (Sg typ)) (N:Nat) (c:Code):Prop:=∀ [Hid] {h:H} {S:St typ} {r:Ty} {y:r.T} {k:Exit->St typ->Option r.T} {Q:Exit->EL->OL->Prop},
 S.ok->Xf B Q->KOk S r y k Q->X8 (A:=typ) P Γ N c h S r k=some y->AWp P B c Q S.e S.o
theorem jwS [Hid] {Γ:List (Sg typ)} (hB:B.ok) {c:Code} (ih:C0a P B Γ N c) {h:H} {S:St typ} {r:Ty} {y:r.T} {k:Exit->St typ->Option r.T} {Q:Exit->EL->OL->Prop} (ok:S.ok) (hs:Xf B Q) (hk:KOk S r y k Q)
  (hy:jw (A:=typ) h S r k (λh k=>X8 (A:=typ) P Γ N c h S r k)=some y):AWp P B c Q S.e S.o:=by
 unfold jw at hy;split at hy
 ·rename_i T h';simp only at hy;cases hg:(mkT S T).good with
  | false=>rw [hg] at hy;cases hy
  | true =>
   rw [hg,cond_true] at hy;refine AWp.cutG hy (λ(i:Hid) m => @St.e i ((mkT S T).inst (A:=typ) S.L m)) (λ(i:Hid) m => @St.o i ((mkT S T).inst (A:=typ) S.L m)) (λi m hm E O mat => ?_) (λj hj hbody => ?_)
   ·exact hs _ _ _ _ _ mat (hk _ _ (Kw hg) Gs hm)
   ·refine ih ok hs (@λi e S' ok hx hk' => ?_) hbody;split at hk'
    ·obtain⟨x,h1,h2⟩:=Cc hB ok hx (Nat.le_refl _) hk';exact hj i x h1 _ _ h2
    ·exact hk _ _ ok hx hk'
 ·exact ih ok hs hk hy
theorem B2i {Γ:List (Sg typ)} (hΓ:∀ g∈Γ,COk P g) (hB:B.ok) (hN:B.N=N) (hm:P.follows .mixedOrders=true):∀ c:Code,C0a P B Γ N c:=by
 intro c;induction c with
 | skip=>intro i h S r y k Q ok hs hk hy;exact AWp.skip (hk _ _ ok (H1.refl _) hy)
 | ret=>intro i h S r y k Q ok hs hk hy;exact AWp.ret (hk _ _ ok (H1.refl _) hy)
 | exit id=>intro i h S r y k Q ok hs hk hy;exact AWp.exit (hk _ _ ok (H1.refl _) hy)
 | seq a b iha ihb =>
  intro i h S r y k Q ok hs hk hy;unfold X8 at hy;split at hy
  ·exact A7z hΓ hB hN ok rfl hs (λS' ok' hx hk'=>hk _ _ ok' hx hk') hy
  ·refine AWp.seq (jwS hB iha ok (A82 hs) (@λ_ e S' ok' hx hk' => ?_) hy);cases e with
   | normal=>exact jwS hB ihb ok' hs (hk.mono hx) hk'
   | _=>exact hk _ _ ok' hx hk'
 | cond x a b iha ihb =>
  intro i h S r y k Q ok hs hk hy;cases x with
  | tmp t =>
   unfold X8 at hy;split at hy
   ·rename_i ht;exact AWp.cond (b:=true) (by rw [K8,ht];rfl) (λ_=>jwS hB iha ok hs hk hy) (λh=>by cases h)
   ·rename_i ht;exact AWp.cond (b:=false) (by rw [K8,ht];rfl) (λh=>by cases h) (λ_=>jwS hB ihb ok hs hk hy)
   ·rename_i i ht;have kn:∀ {b:Bool},S.lv .bool i=b->(S.kn i b).ok∧(S.kn i b).e=S.e∧(S.kn i b).o=S.o∧KOk (S.kn i b) r y k Q:=fun {b} hb=>⟨B4r ok,C08 hb,rfl,hk.mono (S1:=S.kn i b) ⟨Nat.le_refl _,λ_ _ _=>rfl⟩⟩;refine AWp.cond (b:=S.lv .bool i) (by rw [K8,ht];rfl) (λhb => ?_) (λhb => ?_)
    ·obtain⟨k1,k2,k3,k4⟩:=kn hb;have:=jwS hB iha k1 hs k4 (A1o hb hy);rw [k2,k3] at this;exact this
    ·obtain⟨k1,k2,k3,k4⟩:=kn hb;have:=jwS hB ihb k1 hs k4 (A1p hb hy);rw [k2,k3] at this;exact this
   ·rename_i i q ht;have hv:(TV.alt i (.kb q) (.cst 4)).v S.lv = @cond V (S.lv .bool i) (.d (.bool q)) (.sat (Ox 0)):=rfl;cases hb:(S.lv .bool i:Bool) with
    | true =>
     have hy:=A1o hb hy;cases q with
     | true=>exact AWp.cond (b:=true) (by rw [K8,ht,Option.map_some,hv,hb];rfl) (λ_=>jwS hB iha ok hs hk hy) (λh=>by cases h)
     | false=>exact AWp.cond (b:=false) (by rw [K8,ht,Option.map_some,hv,hb];rfl) (λh=>by cases h) (λ_=>jwS hB ihb ok hs hk hy)
    | false =>
     obtain⟨h1,h2⟩:=Ty.Pq (A1p hb hy);exact AWp.condU (by rw [K8,ht,Option.map_some,hv,hb];rfl) (jwS hB iha ok hs hk h1) (jwS hB ihb ok hs hk h2)
   ·rename_i ht;obtain⟨h1,h2⟩:=Ty.Pq hy;exact AWp.condU (by rw [K8,ht];rfl) (jwS hB iha ok hs hk h1) (jwS hB ihb ok hs hk h2)
   ·cases hy
  | const v =>
   cases v with
   | bool q =>
    cases q with
    | true=>exact λac w σ Z s=>wp_cond_split (show ac.eval (.const (.bool true)) = .bool true from rfl) (λ_=>jwS hB iha ok hs hk hy ac w σ Z s) (λh=>by cases h)
    | false=>exact λac w σ Z s=>wp_cond_split (show ac.eval (.const (.bool false)) = .bool false from rfl) (λh=>by cases h) (λ_=>jwS hB ihb ok hs hk hy ac w σ Z s)
   | _=>cases hy
  | _=>cases hy
 | block id c ih =>
  intro i h S r y k Q ok hs hk hy;unfold X8 at hy;refine AWp.block (jwS hB ih ok (A83 hs) (@λ_ e S' ok' hx hk' => ?_) hy);cases e with
  | exit j =>
   simp only at hk';cases hj:Nat.beq j id with
   | true =>
    rw [hj] at hk';have:=Nat.eq_of_beq_eq_true hj;subst this;simp only [A07,if_true];exact hk _ _ ok' hx hk'
   | false =>
    rw [hj] at hk';have:j≠id:=λe=>by subst e;simp at hj
    simp only [A07,if_neg this];exact hk _ _ ok' hx hk'
  | _=>exact hk _ _ ok' hx hk'
 | loop c ih =>
  intro i h S r y k Q ok hs hk hy;cases h with
  | l T X hb =>
   unfold X8 at hy;simp only at hy;cases hg:(mkT S T).good with
   | false=>rw [hg] at hy;cases hy
   | true =>
    rw [hg,cond_true] at hy;obtain⟨s0,h1,h2⟩:=Cc hB ok (H1.refl _) (Nat.le_refl _) hy;obtain⟨x,h3,h4⟩:=A33 h1;refine AWp.loopG _ (λ(i:Hid) s => @St.e i ((mkT S T).inst (A:=typ) S.L s)) (λ(i:Hid) s => @St.o i ((mkT S T).inst (A:=typ) S.L s)) (λv e E' O'=>exK (A:=typ) S r k X v=some y->Q e E' O') (A6m h3) (λi s z hz => ?_) (λe E' O' hq=>hq h4) i h2;refine jwS (r:=.sum (exT S X) (J3 T.cs)) hB ih (Kw hg) ?_ ?_ hz
    ·intro e E E' O O' m hq;cases z with
     | inl v=>exact⟨hq.1,λhv=>hs _ _ _ _ _ m (hq.2 hv)⟩
     | inr s'=>exact⟨hq.1,hq.2.imp λ_ h=>m.trans h⟩
    ·intro i e S' ok' hx hk';have hx':H1 S S':=Gs.trans hx;cases e with
     | normal =>
      obtain⟨s',h5,h6⟩:=Cc hB ok' hx' (Nat.le_refl _) hk';cases h5;exact⟨rfl,i,h6⟩
     | _ =>
      obtain⟨v,h5,h6⟩:=A81 hB ok' hx' hk';cases h5;exact⟨by simp,λhv=>h6 hs hk hv⟩
  | _=>cases hy
 | region id ops draw =>
  intro i h S r y k Q ok hs hk hy;unfold X8 at hy;obtain⟨ops⟩:=ops;have key:∀ (h:H) (S:St typ),S.ok->KOk S r y k Q->A16 (A:=typ) P Γ N ops draw r k h S=some y->AWp P B (.region id ops.toArray draw) Q S.e S.o:=by
   intro h;induction h with
   | p g a b iha ihb =>
    intro S ok hk hy;have kn:∀ {b:Bool},S.lv .bool g=b->(S.rs g b).ok∧(S.rs g b).e=S.e∧(S.rs g b).o=S.o∧KOk (S.rs g b) r y k Q:=fun {b} hb=>⟨B9d ok,C2s hb,C2t hb,hk.mono (S1:=S.rs g b) ⟨Nat.le_refl _,λ_ _ _=>rfl⟩⟩;unfold A16 at hy;cases hb:S.lv .bool g with
    | true =>
     obtain⟨k1,k2,k3,k4⟩:=kn hb;have:=iha _ k1 k4 (A1o hb hy);rw [k2,k3] at this;exact this
    | false =>
     obtain⟨k1,k2,k3,k4⟩:=kn hb;have:=ihb _ k1 k4 (A1p hb hy);rw [k2,k3] at this;exact this
   | i fr ims =>
    intro S ok hk hy;unfold A16 at hy;split at hy
    ·rename_i S' hf;obtain⟨m1,k1,x1⟩:=Si hB ok hf;exact AWp.ghost m1 (Qd hΓ hB hN hm k1 hy (id:=id) (Q:=Q) λS'' ok'' hx hk'=>hk _ _ ok'' (x1.trans hx) hk')
    ·cases hy
   | q n fr ims =>
    intro S ok hk hy;unfold A16 at hy;split at hy
    ·rename_i S' hf;obtain⟨m1,k1,x1⟩:=Si hB ok hf;cases draw with
     | true=>cases hy
     | false =>
      rw [cond_false] at hy;refine AWp.ghost m1 (AWp.ofLW (Kv hΓ hB hN k1 (@λ_ S'' ok'' hx hk' => ?_) hy));split at hk'
      ·rename_i S3 h3;obtain⟨i',m2,k2,x2⟩:=B5m (B:=B) ok'' h3;exact hs _ _ _ _ _ m2 (@hk i' _ _ k2 (x1.trans (hx.trans x2)) hk')
      ·cases hk'
    ·cases hy
   | _=>intro S ok hk hy;exact Qd hΓ hB hN hm ok hy (id:=id) (Q:=Q) λS'' ok'' hx hk'=>hk _ _ ok'' hx hk'
  exact key h S ok hk hy
 | _=>intro i h S r y k Q ok hs hk hy;simp [X8] at hy
end
end Go.Vc
namespace Go.Vc
open Go
def TOb.beq:TOb->TOb->Bool
 | .box t x,.box t' x'=>Nat.beq t t'&&x.beq x'
 | .row e c i,.row e' c' i'=>Nat.beq e e'&&decide (c=c')&&Nat.beq i i'
 | .map c e i,.map c' e' i'=>decide (e=e')&&decide (c=c')&&Nat.beq i i'
 | .glob e c i,.glob e' c' i'=>Nat.beq e e'&&decide (c=c')&&Nat.beq i i'
 | .qrow e i,.qrow e' i'=>Nat.beq e e'&&Nat.beq i i'
 | .vrow e c i q x,.vrow e' c' i' q' x'=>Nat.beq e e'&&decide (c=c')&&Nat.beq i i'&&(Nat.beq q q'&&x.beq x')
 | _,_=>false
theorem TOb.O6 {x y:TOb} (h:x.beq y=true):x=y:=by
 cases x<;>cases y<;>simp only [TOb.beq,Bool.false_eq_true,Bool.and_eq_true,decide_eq_true_eq] at h
 ·rw [Nat.eq_of_beq_eq_true h.1,TV.O6 h.2]
 ·rw [Nat.eq_of_beq_eq_true h.1.1,h.1.2,Nat.eq_of_beq_eq_true h.2]
 ·rw [h.1.1,h.1.2,Nat.eq_of_beq_eq_true h.2]
 ·rw [Nat.eq_of_beq_eq_true h.1.1,h.1.2,Nat.eq_of_beq_eq_true h.2]
 ·rw [Nat.eq_of_beq_eq_true h.1.1.1,h.1.1.2,Nat.eq_of_beq_eq_true h.1.2,Nat.eq_of_beq_eq_true h.2.1,TV.O6 h.2.2]
 ·rw [Nat.eq_of_beq_eq_true h.1,Nat.eq_of_beq_eq_true h.2]
section
variable {A:Alg}
def A17:Nat->List TV->List (Nat×TV)
 | _,[]=>[]
 | k,v :: vs=>(k,v) :: A17 (k+1) vs
def Tx (res:TV) (n:Nat):List TV:=if n=1 then [res] else match res with
 | .tup l=>l.toL
 | _=>[]
def Xg:List ResultVar->List TV->Nat->List (Nat×TV)×List (Nat×TOb)
 | .tmp t :: rs,v :: vs,k=>((t,v) :: (Xg rs vs k).1,(Xg rs vs k).2)
 | .cell a ty :: rs,v :: vs,k=>((a,.ptr k 0 []) :: (Xg rs vs (k+1)).1,(k,.box ty v) :: (Xg rs vs (k+1)).2)
 | _,_,_=>([],[])
def Nv:List (Nat×Option TOb)->List (Nat×TOb)
 | []=>[]
 | (n,some o) :: l=>(n,o) :: Nv l
 | (_,none) :: l=>Nv l
def Cn (rs:List ResultVar) (g:Sg A):Tpl :=
 { E:=(Xg rs (Tx g.res rs.length) 980000).1,O:=Nv g.ro++(Xg rs (Tx g.res rs.length) 980000).2,base:=g.ci.length,cs:=g.co,nx:=0 }
def St0 (g:Sg A) (x:A.I (J3 g.ci)):St A:={ E:=A17 0 g.args,O:=g.po.map λp=>(p.1,some p.2),L:=St.pushL 0 (C4 A g.ci x) [],nl:=g.ci.length,nx:=1000 }
def C0b (P:Program) (Γ:List (Sg A)) (N:Nat) (rs:List ResultVar) (body:Code) (h:H) (g:Sg A) (x:A.I (J3 g.ci)):A.M (J3 g.co) :=
 jw h (St0 g x) (J3 g.co) (λe S=>match e with
  | .ret=>Nu S (Cn rs g) (J3 g.co) λv=>A.ret (J3 g.co) v
  | .normal=>Nu S (Cn rs g) (J3 g.co) λv=>A.ret (J3 g.co) v
  | _=>A.fail (J3 g.co) "exit") λh k=>X8 P Γ N body h (St0 g x) (J3 g.co) k
def Nw (P:Program) (T:Tpl):List ResultVar->List TV->Bool
 | [],[]=>true
 | .tmp t :: rs,v :: vs=>(match A1 T.E t with | some v'=>v'.beq v | none=>false) && !v.top && !v.isL&&Nw P T rs vs
 | .cell a ty :: rs,v :: vs=>(match A1 T.E a with
  | some (.ptr nm 0 [])=>(match A1 T.O nm,v.sz? with
   | some (.box _ v'),some m=>v'.beq v&&tyB P ty m v.agg
   | _,_=>false)
  | _=>false) && !v.isL&&Nw P T rs vs
 | _,_=>false
def tupOk:TV->Bool
 | .tup l=>l.wf&&l.isL
 | _=>false
def shB (P:Program) (N:Nat) (rs:List ResultVar) (g:Sg A):Bool :=
 ((Cn rs g).E.all λp=>p.2.nq)&&((Cn rs g).O.all λp=>p.2.nq)&&(g.args.all λv => !v.top && !v.isL&&v.lt g.ci.length)&&(g.po.all λp=>p.2.lt g.ci.length)&&Nat.ble g.args.length N &&
 Nw P (Cn rs g) rs (Tx g.res rs.length)&&(Cn rs g).good &&
 (Nat.beq rs.length 1 || tupOk g.res) &&
 Y0 (B8 g.ro)&&(g.ro.all λp=>match p.2 with | some o=>o.wf&&o.names.all λn=>memB n (B8 g.ro) | none=>true) &&
 ((Tx g.res rs.length).all λv=>v.wf && !v.isL&&v.names.all λn=>memB n (B8 g.ro))
end
section
variable {P:Program}
theorem Wb [Hid] {f:Val}:∀ (vs:List TV) (k:Nat),Wv k (vs.map (TV.v f))=eOf f (A17 k vs)
 | [],_=>rfl
 | v :: vs,k=>by simp only [List.map_cons,Wv,A17,eOf,Wb vs (k+1)]
theorem A57 (a b:List (Lf typ)):∀ (n:Nat) (L:List (Nat×Lf typ)),St.pushL (n+a.length) b (St.pushL n a L)=St.pushL n (a++b) L:=by
 induction a with
 | nil=>intro n L;rfl
 | cons x a ih =>
  intro n L;simp only [St.pushL,List.cons_append,List.length_cons];rw [show n+(a.length+1)=n+1+a.length from by omega];exact ih _ _
theorem Zk [Hid] {T:Tpl} {f:Val}:∀ {rs:List ResultVar} {vs:List TV},Nw P T rs vs=true->Res P (eOf f T.E) (oOf f (T.O.map λp=>(p.1,some p.2))) rs (vs.map (TV.v f))
 | [],[],_ => .nil
 | .tmp t :: rs,v :: vs,h=>by
  simp only [Nw,Bool.and_eq_true,Bool.not_eq_true'] at h;obtain⟨⟨⟨h1,h2⟩,h3⟩,h4⟩:=h;split at h1
  ·rename_i v' hv;have:=TV.O6 h1;subst this;exact .tmp (by rw [eOf,N4,hv];rfl) (Lt h2) (Zk h4)
  ·cases h1
 | .cell a ty :: rs,v :: vs,h=>by
  simp only [Nw,Bool.and_eq_true,Bool.not_eq_true'] at h;obtain⟨⟨h1,h3⟩,h4⟩:=h;split at h1
  ·rename_i nm ha;split at h1
   ·rename_i bt v' m hn hm;simp only [Bool.and_eq_true] at h1;have:=TV.O6 h1.1;subst this;obtain⟨s1,s2⟩:=TV.P3 (f:=f) hm h3;have hn':A1 (oOf f (T.O.map λp=>(p.1,some p.2))) nm=some (some (.box bt (v'.v f))):=by
     rw [oOf,List.map_map];have:(T.O.map ((λp=>(p.1,p.2.map (TOb.o f))) ∘ λp:Nat×TOb=>(p.1,some p.2)))=T.O.map λp=>(p.1,some (p.2.o f)):=rfl;rw [this,N4 (λo=>some (TOb.o f o)),hn];rfl
    exact .cell (by rw [eOf,N4,ha];rfl) hn' (F0 h1.2) (TV.Et h3 (by rw [hm];simp)) (TV.sz_v hm h3) s1 (Zk h4)
   ·cases h1
  ·cases h1
 | [],_ :: _,h | .tmp _ :: _,[],h | .cell _ _ :: _,[],h=>by simp [Nw] at h
theorem Ff [Hid] {f:Val} {n:Nat} {o:TOb} {l2:List (Nat×TOb)}:∀ {l:List (Nat×Option TOb)},Y0 (B8 l)=true->(n,some o)∈l->A1 (oOf f ((Nv l++l2).map λp=>(p.1,some p.2))) n=some (some (o.o f))
 | [],_,h=>by cases h
 | (m,none) :: l,hu,h=>by
  have hu':Y0 (B8 l)=true:=by
   simp only [B8,List.map_cons,Y0,Bool.and_eq_true] at hu;exact hu.2
  rcases List.mem_cons.1 h with e | h
  ·cases e
  ·exact Ff (l:=l) hu' h
 | (m,some q) :: l,hu,h=>by
  simp only [B8,List.map_cons,Y0,Bool.and_eq_true,Bool.not_eq_true'] at hu;rcases List.mem_cons.1 h with e | h
  ·cases e;simp only [Nv,List.cons_append,List.map_cons,oOf,A4,if_true];rfl
  ·have hne:m≠n:=λe=>by
    subst e;have:memB m (l.map (·.1))=true:=Ar (List.mem_map.2 ⟨_,h,rfl⟩);rw [hu.1] at this;cases this
   have ih:=Ff (f:=f) (l2:=l2) (l:=l) hu.2 h;simp only [Nv,List.cons_append,List.map_cons,oOf,A4,if_neg hne] at ih ⊢;exact ih
where Ar {n:Nat}:∀ {l:List Nat},n∈l->memB n l=true
 | m :: l,h=>by
  simp only [memB,Bool.or_eq_true];rcases List.mem_cons.1 h with e | h
  ·left;subst e;exact Nat.beq_refl _
  ·right;exact Ar h
theorem mkC {f:FuncId} {fn:Func} {body:Code} {Γ:List (Sg typ)} {g:Sg typ} {h:H} (hf:P.funcs[f]? = some fn) (hb:fn.body=some body) (hΓ:∀ g∈Γ,COk P g) (hm:P.follows .mixedOrders=true) (hg:g.fid=f)
  (hs:shB P fn.ntmps fn.results.toList g=true) (hr:∀ x,C0b (A:=typ) P Γ fn.ntmps fn.results.toList body h g x=g.run x):COk P g:=by
 subst hg;intro x r hx;rw [<- hr x] at hx;unfold shB at hs;simp only [Bool.and_eq_true] at hs;obtain⟨⟨⟨⟨⟨⟨⟨⟨⟨⟨q1,q2⟩,s1⟩,s2⟩,s3⟩,s4⟩,s5⟩,s6⟩,s7⟩,s8⟩,s9⟩:=hs;have l0:∀ c i,(St0 (A:=typ) g x).lv c i=N7 (C4 typ g.ci x) c i:=λ_ _=>rfl;have hok:(St0 (A:=typ) g x).ok:=by
  constructor
  ·show St.ltE g.ci.length (A17 0 g.args)=true;have:∀ (vs:List TV) (k:Nat),(vs.all λv => !v.top && !v.isL&&v.lt g.ci.length)=true->St.ltE g.ci.length (A17 k vs)=true:=by
    intro vs;induction vs with
    | nil=>intro k _;rfl
    | cons v vs ih =>
     intro k hv;simp only [List.all_cons,Bool.and_eq_true] at hv;simp only [A17,St.ltE,Bool.and_eq_true];exact⟨hv.1.2,ih _ (by simpa [Bool.and_eq_true] using hv.2)⟩
   exact this _ _ s1
  ·show St.ltO g.ci.length (g.po.map λp=>(p.1,some p.2))=true;have:∀ po:List (Nat×TOb),(po.all λp=>p.2.lt g.ci.length)=true->St.ltO g.ci.length (po.map λp=>(p.1,some p.2))=true:=by
    intro po;induction po with
    | nil=>intro _;rfl
    | cons v vs ih =>
     intro hv;simp only [List.all_cons,Bool.and_eq_true] at hv;simp only [List.map_cons,St.ltO,Bool.and_eq_true];exact⟨hv.1,ih hv.2⟩
   exact this _ s2
 refine AC.of_code2 hf hb ?_ (by rw [List.length_map];exact Nat.le_of_ble_eq_true s3) (λB hB hN => ?_) ?_
 ·rw [List.all_map];refine List.all_eq_true.2 λv hv => ?_;have:=List.all_eq_true.1 s1 v hv;simp only [Bool.and_eq_true,Bool.not_eq_true'] at this;simp only [Function.comp,Q4,Bool.not_eq_true'];exact Lt this.1.1
 ·rw [Wb];have eo:((g.po.map λp=>(p.1,p.2.o (N7 (C4 typ g.ci x)))).map λp=>(p.1,some p.2))=(St0 (A:=typ) g x).o:=by
   show _=oOf (N7 (C4 typ g.ci x)) (g.po.map λp=>(p.1,some p.2));simp only [oOf,List.map_map];rfl
  rw [eo];have soft:Xf B (B3m P B fn.results.toList (g.res.v (N7 (C4 typ g.ci x++C4 typ g.co r))) (oOf (N7 (C4 typ g.ci x++C4 typ g.co r)) g.ro)):=λe E E' O O' m hq=>by
   obtain⟨h1,E1,O1,m1,h2⟩:=hq;exact⟨h1,E1,O1,m.trans m1,h2⟩
  have fin0:∀ {E:EL} {O:OL} {e:Exit},Mat B E O (eOf (N7 (C4 typ g.ci x++C4 typ g.co r)) (Cn fn.results.toList g).E) (oOf (N7 (C4 typ g.ci x++C4 typ g.co r)) ((Cn fn.results.toList g).O.map λp=>(p.1,some p.2)))->(e = .ret∨e = .normal)->B3m P B fn.results.toList (g.res.v (N7 (C4 typ g.ci x++C4 typ g.co r))) (oOf (N7 (C4 typ g.ci x++C4 typ g.co r)) g.ro) e E O:=fun {E O e} h2 he=>by
   generalize N7 (C4 typ g.ci x++C4 typ g.co r)=fo at h2 ⊢;refine⟨he,_,_,h2,(Tx g.res fn.results.toList.length).map (TV.v fo),Zk s4,?_,?_,?_,?_⟩
   ·rw [Bool.or_eq_true] at s6;unfold Tx;rcases s6 with s6 | s6
    ·rw [if_pos (Nat.eq_of_beq_eq_true s6)];rfl
    ·unfold tupOk at s6;split at s6
     ·rename_i l hl;simp only [Bool.and_eq_true] at s6
      by_cases hn:fn.results.toList.length=1
      ·rw [if_pos hn];rfl
      ·rw [if_neg hn,hl]
       skip
       have e1:(TV.tup l).v fo = .tup (l.toL.map (TV.v fo)):=by
        show V.tup (l.vs fo)=_;rw [Yy s6.1 s6.2]
       rw [e1];have hlen:(l.toL.map (TV.v fo)).length≠1:=by
        have:=(res_len s4).symm;simp only [Tx,if_neg hn,hl] at this;rw [List.length_map,this];exact hn
       generalize l.toL.map (TV.v fo)=q at hlen
       match q,hlen with
       | [],_=>rfl
       | [_],h=>simp at h
       | _ :: _ :: _,_=>rfl
     ·cases s6
   ·unfold Dl;have hk:B8 (oOf fo g.ro)=B8 g.ro:=Gn _;rw [hk];simp only [List.all_nil,Bool.true_and,Bool.and_eq_true,List.all_eq_true];refine⟨⟨λp hp => ?_,λp hp q hq => ?_⟩,λp hp => ?_⟩
    ·simp only [oOf,List.mem_map] at hp;obtain⟨p',hp',rfl⟩:=hp;have:=List.all_eq_true.1 s8 p' hp';obtain⟨n,o⟩:=p';cases o with
     | none=>rfl
     | some o =>
      simp only [Bool.and_eq_true] at this;simp only [Option.map_some];exact TOb.Rz this.1 this.2
    ·obtain⟨n,o⟩:=p;obtain⟨m,o'⟩:=q;cases o<;>cases o'<;>simp [rnm,A1]
    ·obtain⟨n,o⟩:=p;cases o<;>simp [rnm,A1]
   ·unfold A06 Ni;refine List.map_congr_left λp hp => ?_;simp only [oOf,List.mem_map] at hp;obtain⟨p',hp',rfl⟩:=hp;obtain⟨n,o⟩:=p';cases o with
    | none=>rfl
    | some o =>
     simp only [Option.map_some];have:=Ff (f:=fo) (l2:=(Xg fn.results.toList (Tx g.res fn.results.toList.length) 980000).2) s7 hp';show A1 _ (rnm [] n)=_;rw [show rnm [] n=n from rfl];rw [show(Cn fn.results.toList g).O=Nv g.ro++(Xg fn.results.toList (Tx g.res fn.results.toList.length) 980000).2 from rfl,this];congr 2;have hid:∀ n,rnm [] n=n:=λ_=>rfl;cases o with
     | box t x=>simp only [TOb.o,Ob.ren,V.ren_id hid]
     | row e c i=>rfl
     | map kc vc i=>rfl
     | glob g c i=>rfl
     | qrow e j=>rfl
     | vrow e c j pos x=>simp only [TOb.o,Ob.ren,V.renL_id hid]
   ·rw [Gn];have:∀ l:List TV,(l.all λv=>v.wf && !v.isL&&v.names.all λn=>memB n (B8 g.ro))=true->(V.namesL (l.map (TV.v fo))).all (λn=>memB n (B8 g.ro))=true:=by
     intro l;induction l with
     | nil=>intro _;rfl
     | cons v l ih =>
      intro hv;simp only [List.all_cons,Bool.and_eq_true,Bool.not_eq_true'] at hv;simp only [List.map_cons,V.namesL,List.all_append,Bool.and_eq_true];exact⟨TV.Gl hv.1.1.1 hv.1.1.2 hv.1.2,ih (by simpa [Bool.and_eq_true] using hv.2)⟩
    exact this _ s9
  refine jwS hB (B2i hΓ hB hN hm body) hok soft (@λi e S' ok' hx' hk' => ?_) hx;have fin:Nu (A:=typ) S' (Cn fn.results.toList g) (J3 g.co) (λv=>typ.ret (J3 g.co) v)=some r->∀ e:Exit,(e = .ret∨e = .normal)->B3m P B fn.results.toList (@TV.v hid0 (N7 (C4 typ g.ci x++C4 typ g.co r)) g.res) (@oOf hid0 (N7 (C4 typ g.ci x++C4 typ g.co r)) g.ro) e (@St.e i S') (@St.o i S'):=λhk e he=>by
   obtain⟨v,h1,h2⟩:=Cc hB ok' hx' (Nat.le_refl _) hk;cases h1;have el:((Cn fn.results.toList g).inst (A:=typ) (St0 (A:=typ) g x).L r).lv=N7 (C4 typ g.ci x++C4 typ g.co r):=by
    funext c i;show St.lvL typ (St.pushL g.ci.length (C4 typ g.co r) (St.pushL 0 (C4 typ g.ci x) [])) c i=St.lvL typ (St.pushL 0 (C4 typ g.ci x++C4 typ g.co r) []) c i;have:=A57 (C4 typ g.ci x) (C4 typ g.co r) 0 [];rw [Bu,Nat.zero_add] at this;rw [this]
   have ee:@St.e i ((Cn fn.results.toList g).inst (A:=typ) (St0 (A:=typ) g x).L r) = @eOf hid0 (N7 (C4 typ g.ci x++C4 typ g.co r)) (Cn fn.results.toList g).E:=by
    show @eOf i ((Cn fn.results.toList g).inst (A:=typ) (St0 (A:=typ) g x).L r).lv _=_;rw [el];exact B5g i hid0 q1
   have eoo:@St.o i ((Cn fn.results.toList g).inst (A:=typ) (St0 (A:=typ) g x).L r) = @oOf hid0 (N7 (C4 typ g.ci x++C4 typ g.co r)) ((Cn fn.results.toList g).O.map λp=>(p.1,some p.2)):=by
    show @oOf i ((Cn fn.results.toList g).inst (A:=typ) (St0 (A:=typ) g x).L r).lv _=_;rw [el];exact A7a i hid0 (l:=(Cn fn.results.toList g).O.map λp=>(p.1,some p.2)) (by rw [List.all_map];exact q2)
   rw [ee,eoo] at h2;exact fin0 h2 he
  cases e with
  | ret=>exact fin hk' _ (.inl rfl)
  | normal=>exact fin hk' _ (.inr rfl)
  | _=>cases hk'
 ·rw [List.all_map];exact List.all_eq_true.2 λp _=>TOb.A25 p.2
where res_len {T:Tpl}:∀ {rs:List ResultVar} {vs:List TV},Nw P T rs vs=true->rs.length=vs.length
 | [],[],_=>rfl
 | .tmp _ :: rs,v :: vs,h=>by simp only [Nw,Bool.and_eq_true] at h;simp only [List.length_cons,res_len h.2]
 | .cell _ _ :: rs,v :: vs,h=>by simp only [Nw,Bool.and_eq_true] at h;simp only [List.length_cons,res_len h.2]
 | [],_ :: _,h | .tmp _ :: _,[],h | .cell _ _ :: _,[],h=>by simp [Nw] at h
end
end Go.Vc
namespace Go.Vc
variable {P:Program}
theorem glN:∀ g∈([]:List (Sg typ)),COk P g:=λ_ h=>by cases h
theorem glC {g:Sg typ} {l:List (Sg typ)} (h:COk P g) (k:∀ g∈l,COk P g):∀ g'∈g :: l,COk P g':=λg' hg=>by
 rcases List.mem_cons.1 hg with e | hg
 ·rw [e];exact h
 ·exact k _ hg
end Go.Vc
