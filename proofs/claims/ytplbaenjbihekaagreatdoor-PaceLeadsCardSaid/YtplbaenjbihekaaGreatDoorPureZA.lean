/- Words and prefixes, attributes of decks, the sizes of codes, in plain Lean. -/
import Derived.Test.YtplbaenjbihekaaGreatDoorFns
import Derived.Test.YtplbaenjbihekaaGreatDoorVcO
import Derived.Test.YtplbaenjbihekaaGreatDoorVcQ
namespace Go.Proofs.YtplbaenjbihekaaGreatDoor
open Go Go.Vc
abbrev I64 (x:Int):Prop:=IntKind.i64.min≤x∧x≤IntKind.i64.max
theorem B04 {n:Nat} (h:n<18446744073709551616):IntKind.u64.wrap (n:Int)=n:=by
 rw [IntKind.wrap_u64];omega
theorem B3y (n:Nat):IntKind.u64.wrap (n:Int)=((n % 18446744073709551616:Nat):Int):=by
 rw [IntKind.wrap_u64];omega
theorem B34 (n k:Nat) (hk:k≤64):shlI .u64 (n:Int) (k:Int)=((n*2 ^ k % 18446744073709551616:Nat):Int):=by
 show IntKind.u64.wrap ((n:Int)*2 ^ (min (k:Int).toNat IntKind.u64.bits))=_
 rw [show(min (k:Int).toNat IntKind.u64.bits)=k from by show min k 64=k;omega]
 have:(n:Int)*(2:Int) ^ k=((n*2 ^ k:Nat):Int):=by rw [Int.natCast_mul,Int.natCast_pow];rfl
 rw [this,B3y]
def cut (n k:Nat):Nat:=n / 2 ^ k*2 ^ k
theorem A7v (n k i:Nat):(cut n k).testBit i=(decide (k≤i)&&n.testBit i):=by
 unfold cut
 rw [Nat.testBit_mul_two_pow]
 by_cases h:k≤i
 ·rw [decide_eq_true (show i≥k from h),Nat.testBit_div_two_pow,show i-k+k=i from by omega]
 ·rw [decide_eq_false (show ¬ i≥k from h)];simp
theorem B2b (n k:Nat):cut n k≤n:=Nat.div_mul_le_self n (2 ^ k)
theorem A8n {a k:Nat} (ha:a<18446744073709551616) (hk:k≤64):bitI .andNot .u64 (a:Int) ((2 ^ k-1:Nat):Int)=((cut a k:Nat):Int):=by
 have hp:2 ^ k≤2 ^ 64:=Nat.pow_le_pow_right (by decide) hk
 have hk0:0<2 ^ k:=Nat.pow_pos (by decide)
 have e:(BitVec.ofInt 64 (a:Int) &&& ~~~(BitVec.ofInt 64 ((2 ^ k-1:Nat):Int))).toNat=cut a k:=by
  refine Nat.eq_of_testBit_eq fun i => ?_
  rw [BitVec.testBit_toNat,BitVec.getLsbD_and,BitVec.getLsbD_not,BitVec.ofInt_natCast,BitVec.ofInt_natCast,BitVec.getLsbD_ofNat,BitVec.getLsbD_ofNat,A7v,Nat.testBit_two_pow_sub_one]
  by_cases h1:i<64
  ·by_cases h2:k≤i
   ·rw [decide_eq_true h1,decide_eq_true h2,decide_eq_false (show ¬ i<k by omega)];simp
   ·rw [decide_eq_true h1,decide_eq_false h2,decide_eq_true (show i<k by omega)];simp
  ·rw [decide_eq_false h1]
   have:a.testBit i=false:=Nat.testBit_lt_two_pow (Nat.lt_of_lt_of_le (show a<2 ^ 64 from ha) (Nat.pow_le_pow_right (by decide) (by omega)))
   rw [this];simp
 show IntKind.u64.wrap ((BitVec.ofInt 64 (a:Int) &&& ~~~(BitVec.ofInt 64 ((2 ^ k-1:Nat):Int))).toNat:Int)=_
 rw [e,B04 (Nat.lt_of_le_of_lt (B2b a k) ha)]
-- numbers of addresses
def nA (a:E7):Nat:=a.fHi.toNat*18446744073709551616+a.fLo.toNat
def aR (a:E7):Prop:=(0≤a.fHi∧a.fHi<18446744073709551616)∧(0≤a.fLo∧a.fLo<18446744073709551616)
def mkA (v6:Bool) (n:Nat):E7:=E7.mk v6 ((n / 18446744073709551616:Nat):Int) ((n % 18446744073709551616:Nat):Int)
def wid (v6:Bool):Nat:=if v6=true then 128 else 32
theorem B2c {a:E7} (h:aR a):mkA a.fV6 (nA a)=a:=by
 obtain⟨v,hi,lo⟩:=a
 obtain⟨⟨h1,h2⟩,h3,h4⟩:=h
 simp only at h1 h2 h3 h4
 have e1:((nA ⟨v,hi,lo⟩ / 18446744073709551616:Nat):Int)=hi:=by unfold nA;simp only;omega
 have e2:((nA ⟨v,hi,lo⟩ % 18446744073709551616:Nat):Int)=lo:=by unfold nA;simp only;omega
 unfold mkA
 rw [e1,e2]
theorem B6k (v:Bool) (n:Nat):nA (mkA v n)=n:=by
 unfold nA mkA
 simp only [Int.toNat_natCast]
 exact Nat.div_add_mod' n 18446744073709551616
def aV (a:E7):Prop:=aR a∧(a.fV6=true∨(a.fHi=0∧a.fLo<4294967296))
theorem B6l (v:Bool):wid v≤128:=by unfold wid;split<;>omega
theorem B6a {a b:E7} (ha:aR a) (hb:aR b) (h1:a.fV6=b.fV6) (h2:nA a=nA b):a=b:=by
 rw [← B2c ha,← B2c hb,h1,h2]
-- the code's words
theorem B19 (a:E7):Y2 a=some ((wid a.fV6:Nat):Int):=by
 unfold Y2 wid
 cases a.fV6<;>rfl
theorem A9o (a:E7) (h:aR a):Tot (W9 a) (fun b=>b=true↔aV a):=by
 unfold W9
 obtain⟨⟨h1,h2⟩,h3,h4⟩:=h
 refine Tot.jn (Tot.ite (fun h=>Tot.some ⟨fun _=>⟨⟨⟨h1,h2⟩,h3,h4⟩,.inl h⟩,fun _=>rfl⟩) (fun h=>Tot.some ⟨fun e => ?_,fun e => ?_⟩))
 ·simp only [Bool.and_eq_true,beq_iff_eq,decide_eq_true_eq] at e
  exact⟨⟨⟨h1,h2⟩,h3,h4⟩,.inr e⟩
 ·rcases e.2 with e | e
  ·rw [h] at e;cases e
  ·simp [e]
theorem B4p {k:Nat} (hk:k≤128):A0k (k:Int)=some (((2 ^ (k-64)-1:Nat):Int),((2 ^ (min k 64)-1:Nat):Int)):=by
 unfold A0k
 by_cases h:64<k
 ·refine B10 (by simp;omega) ?_
  have e1:w64 ((k:Int)-64)=((k-64:Nat):Int):=by rw [I3 (by omega) (by omega)];omega
  have e2:(1:Int)=((1:Nat):Int):=rfl
  rw [e1,B04 (by omega),e2,B34 1 (k-64) (by omega),Nat.one_mul]
  have hp:2 ^ (k-64)≤2 ^ 64:=Nat.pow_le_pow_right (by decide) (by omega)
  have h0:0<2 ^ (k-64):=Nat.pow_pos (by decide)
  have e64:(2:Nat) ^ 64=18446744073709551616:=by decide
  rw [Nat.min_eq_right (by omega)]
  congr 1
  refine Prod.ext ?_ rfl
  simp only
  rw [IntKind.wrap_u64]
  omega
 ·refine B11 (by simp;omega) ?_
  have e2:(1:Int)=((1:Nat):Int):=rfl
  rw [B04 (by omega),e2,B34 1 k (by omega),Nat.one_mul,show k-64=0 from by omega,Nat.min_eq_left (by omega)]
  have hp:2 ^ k≤2 ^ 64:=Nat.pow_le_pow_right (by decide) (by omega)
  have h0:0<2 ^ k:=Nat.pow_pos (by decide)
  have e64:(2:Nat) ^ 64=18446744073709551616:=by decide
  congr 1
  refine Prod.ext rfl ?_
  simp only
  rw [IntKind.wrap_u64]
  omega
theorem B3z (hi lo k:Nat) (hlo:lo<18446744073709551616) (hk:k≤128):cut (hi*18446744073709551616+lo) k=cut hi (k-64)*18446744073709551616+cut lo (min k 64):=by
 have e64:(18446744073709551616:Nat)=2 ^ 64:=by decide
 rw [e64] at hlo ⊢
 refine Nat.eq_of_testBit_eq fun i => ?_
 have hl:cut lo (min k 64)<2 ^ 64:=Nat.lt_of_le_of_lt (B2b _ _) hlo
 rw [A7v,Nat.mul_comm,Nat.testBit_two_pow_mul_add _ hlo,Nat.mul_comm (cut hi (k-64)),Nat.testBit_two_pow_mul_add _ hl,A7v,A7v]
 by_cases h1:i<64
 ·rw [if_pos h1,if_pos h1]
  by_cases h2:k≤i
  ·rw [decide_eq_true h2,decide_eq_true (show min k 64≤i by omega)]
  ·rw [decide_eq_false h2,decide_eq_false (show ¬ min k 64≤i by omega)]
 ·rw [if_neg h1,if_neg h1]
  by_cases h2:k≤i
  ·rw [decide_eq_true h2,decide_eq_true (show k-64≤i-64 by omega)]
  ·rw [decide_eq_false h2,decide_eq_false (show ¬ k-64≤i-64 by omega)]
theorem B4q {a:E7} (ha:aR a) {n:Nat} (hn:n≤wid a.fV6):A0l a (n:Int)=some (mkA a.fV6 (cut (nA a) (wid a.fV6-n))):=by
 obtain⟨v,hi,lo⟩:=a
 obtain⟨⟨h1,h2⟩,h3,h4⟩:=ha
 simp only at h1 h2 h3 h4 hn ⊢
 obtain⟨H,rfl⟩:∃ H:Nat,hi=H:=⟨hi.toNat,by omega⟩
 obtain⟨L,rfl⟩:∃ L:Nat,lo=L:=⟨lo.toNat,by omega⟩
 have hw:=B6l v
 unfold A0l
 refine K7 (B19 _) ?_
 simp only
 have e:w64 (((wid v:Nat):Int)-(n:Int))=((wid v-n:Nat):Int):=by rw [I3 (by omega) (by omega)];omega
 rw [e]
 refine K7 (B4p (by omega)) ?_
 simp only
 rw [A8n (by omega) (by omega),A8n (by omega) (by omega)]
 have hn':nA ⟨v,(H:Int),(L:Int)⟩=H*18446744073709551616+L:=by unfold nA;simp
 rw [hn',B3z H L _ (by omega) (by omega)]
 have hl:=B2b L (min (wid v-n) 64)
 congr 1
 unfold mkA
 generalize cut H (wid v-n-64)=X
 generalize cut L (min (wid v-n) 64)=Y at hl
 congr 1
 ·omega
 ·omega
theorem A1u {α:Type} {Q:List α→Prop} (h0:Q []) (h1:∀ b x,Q b→Q (b++[x])):∀ b,Q b:=fun b=>by
 rw [← List.reverse_reverse b]
 induction b.reverse with
 | nil=>exact h0
 | cons x l ih=>rw [List.reverse_cons];exact h1 _ _ ih
-- bits of bytes
def zA:E7:=E7.mk false 0 0
def zP:A0:=A0.mk zA 0
def aeq (a b:E7):Bool:=((a.fV6==b.fV6)&&((a.fHi==b.fHi)&&((a.fLo==b.fLo)&&true)))
theorem A6b {a b:E7}:aeq a b=true↔a=b:=by
 obtain⟨a1,a2,a3⟩:=a
 obtain⟨b1,b2,b3⟩:=b
 simp [aeq]
def peq (p q:A0):Bool:=(aeq p.fAddr q.fAddr&&((p.fLen==q.fLen)&&true))
theorem A17 {p q:A0}:peq p q=true↔p=q:=by
 obtain⟨a,n⟩:=p
 obtain⟨b,m⟩:=q
 simp [peq,A6b]
structure pV (p:A0):Prop where
 addr:aV p.fAddr
 len0:0≤p.fLen
 len1:p.fLen≤wid p.fAddr.fV6
 low:cut (nA p.fAddr) (wid p.fAddr.fV6-p.fLen.toNat)=nA p.fAddr
open Classical in
noncomputable def validF (p:A0):Bool:=decide (pV p)
open Classical in
theorem A1h {p:A0}:validF p=true↔pV p:=by unfold validF;rw [decide_eq_true_iff]
theorem A9p {p:A0} (ha:aR p.fAddr):Y3 p=some (validF p):=by
 refine Tot.eq ?_
 unfold Y3
 refine Tot.jn (Tot.bindT (A9o _ ha) fun r hr=>Tot.ite (fun h=>Tot.bindOf (B19 _) (Tot.ite (fun h1 => ?_) (fun h1=>Tot.some ?_))) (fun h=>Tot.some ?_))
 ·simp only [Bool.and_eq_true,decide_eq_true_eq] at h
  have hv:=hr.1 h.1
  have h1:=of_decide_eq_true h1
  obtain⟨N,hN⟩:∃ N:Nat,p.fLen=N:=⟨p.fLen.toNat,by omega⟩
  rw [hN] at h1 ⊢
  refine Tot.bindOf (B4q ha (by omega)) (Tot.some ?_)
  show aeq (mkA p.fAddr.fV6 (cut (nA p.fAddr) (wid p.fAddr.fV6-N))) p.fAddr=validF p
  rw [Bool.eq_iff_iff,A1h,A6b]
  constructor
  ·intro e
   refine⟨hv,h.2,by rw [hN];exact h1,?_⟩
   have:=congrArg nA e
   rw [B6k] at this
   rw [hN];exact this
  ·intro e
   have:=e.low
   rw [hN,Int.toNat_natCast] at this
   rw [this,B2c ha]
 ·symm
  rw [← Bool.not_eq_true]
  intro e
  have:=(A1h.1 e).len1
  have:=of_decide_eq_false h1
  omega
 ·symm
  rw [← Bool.not_eq_true]
  intro e
  have e:=A1h.1 e
  rw [hr.2 e.addr,decide_eq_true e.len0] at h
  cases h
-- order
theorem A09 (x y:Int):J3 x y=some (if x<y then -1 else if y<x then 1 else 0):=by
 unfold J3 A3f
 simp only [Option.bind_some,bne_self_eq_false,Bool.false_eq_true,if_false]
 by_cases h:x<y
 ·rw [if_pos h,if_pos (decide_eq_true h)]
 ·rw [if_neg h,if_neg (by simpa using h)]
  by_cases h2:y<x
  ·rw [if_pos h2,if_pos (decide_eq_true h2)]
  ·rw [if_neg h2,if_neg (by simpa using h2)]
theorem A7b (x y:Int):Z8 x y=some (if x<y then -1 else if y<x then 1 else 0):=A09 x y
def orL:List Int→Int
 | []=>0
 | x :: l=>if x≠0 then x else orL l
theorem B6b (l:List Int) (hl:l.length≤4611686018427387904):A4m l=some (orL l):=by
 refine Tot.eq ?_
 unfold A4m
 refine Tot.bindRng l.length (fun k (_:Unit)=>((k:Nat):Int)) (fun k _=>orL l=orL (l.drop k)) (fun x=>match x with | .inl y=>orL l=y | .inr _=>orL l=0) () rfl rfl (fun k b hk hb => ?_) (fun b hb => ?_) (fun x hx => ?_)
 ·unfold A3g
  have hw:w64 ((k:Int)+1)=((k+1:Nat):Int):=by rw [I3 (by omega) (by omega)];rfl
  rw [List.drop_eq_getElem_cons hk] at hb
  refine Tot.iteT (by simpa using hk) (Tot.bindIdx k rfl hk (Tot.ite (fun h=>Tot.stop ?_) (fun h=>Tot.step () hw ?_)))
  ·rw [orL,if_pos (by simpa using h)] at hb
   exact hb
  ·rw [orL,if_neg (by simpa using h)] at hb
   exact hb
 ·unfold A3g
  refine Tot.iteF (by simp) (Tot.last ?_)
  rw [List.drop_length] at hb
  exact hb
 ·cases x with
  | inl y=>exact Tot.some hx.symm
  | inr u=>exact Tot.some hx.symm
def aLt (a b:E7):Prop:=(a.fV6=false∧b.fV6=true)∨(a.fV6=b.fV6∧nA a<nA b)
instance (a b:E7):Decidable (aLt a b):=by unfold aLt;infer_instance
instance:DecidableEq E7:=fun a b=>decidable_of_iff _ (A6b (a:=a) (b:=b))
instance:DecidableEq A0:=fun a b=>decidable_of_iff _ (A17 (p:=a) (q:=b))
def cmpA (a b:E7):Int:=if aLt a b then -1 else if aLt b a then 1 else 0
theorem B35 {a b:E7} (ha:aR a) (hb:aR b):nA a<nA b↔a.fHi<b.fHi∨a.fHi=b.fHi∧a.fLo<b.fLo:=by
 unfold aR at ha hb
 unfold nA
 omega
theorem B5t {a b:E7} (ha:aR a) (hb:aR b):A4u a b=some (cmpA a b):=by
 have fam:∀ x:E7,A0c x=some (if x.fV6=true then 1 else 0):=fun x=>by unfold A0c;split<;>rfl
 unfold A4u
 refine K7 (fam a) (K7 (fam b) (K7 (A09 _ _) (K7 (A7b _ _) (K7 (A7b _ _) (K7 (B6b _ (by simp)) ?_)))))
 congr 1
 have e1:aLt a b↔((a.fV6=false∧b.fV6=true)∨(a.fV6=b.fV6∧(a.fHi<b.fHi∨a.fHi=b.fHi∧a.fLo<b.fLo))):=by unfold aLt;rw [B35 ha hb]
 have e2:aLt b a↔((b.fV6=false∧a.fV6=true)∨(b.fV6=a.fV6∧(b.fHi<a.fHi∨b.fHi=a.fHi∧b.fLo<a.fLo))):=by unfold aLt;rw [B35 hb ha]
 unfold cmpA
 simp only [orL,e1,e2]
 cases hva:a.fV6<;>cases hvb:b.fV6<;>simp<;>(repeat' split)<;>omega
theorem B4r {a b:E7} (ha:aR a) (hb:aR b):A2b a b=some (cmpA a b):=by
 refine Tot.eq ?_
 unfold A2b cmpA
 refine Tot.ite (fun h=>Tot.some ?_) (fun h => ?_)
 ·have e:a=b:=A6b.1 h
  subst e
  have:¬ aLt a a:=by unfold aLt;cases a.fV6<;>simp
  rw [if_neg this,if_neg this]
 ·have h:aeq a b=false:=h
  have hne:a≠b:=fun e=>by rw [show aeq a b=true from A6b.2 e] at h;cases h
  refine Tot.ite (fun h1 => ?_) (fun h1 => ?_)
  ·have h1:a.fV6≠b.fV6:=by simpa using h1
   refine Tot.ite (fun h2=>Tot.some ?_) (fun h2=>Tot.some ?_)
   ·have:a.fV6=false:=by
     cases hh:a.fV6 with
     | false=>rfl
     | true=>rw [hh,h2] at h1;exact absurd rfl h1
    rw [if_pos (.inl ⟨this,h2⟩)]
   ·have:a.fV6=true:=by
     cases hh:a.fV6 with
     | true=>rfl
     | false=>rw [hh,h2] at h1;exact absurd rfl h1
    rw [if_neg (by unfold aLt;simp [this,h2]),if_pos (.inl ⟨h2,this⟩)]
  ·have h1:a.fV6=b.fV6:=by simpa using h1
   have e1:aLt a b↔nA a<nA b:=by unfold aLt;rw [h1];cases b.fV6<;>simp
   have e2:aLt b a↔nA b<nA a:=by unfold aLt;rw [h1];cases b.fV6<;>simp
   have hne2:nA a≠nA b:=fun e=>hne (B6a ha hb h1 e)
   refine Tot.jnR (fun m:Bool=>m=true↔nA a<nA b) (fun j hj => ?_) (fun m hm=>Tot.ite (fun h2=>Tot.some ?_) (fun h2=>Tot.some ?_))
   ·refine Tot.ite (fun h2=>hj _ ?_) (fun h2=>hj _ ?_)
    ·rw [B35 ha hb];simp at h2;simp [h2]
    ·rw [B35 ha hb];simp at h2;simp;omega
   ·rw [if_pos (e1.2 (hm.1 h2))]
   ·have h3:¬ nA a<nA b:=fun e=>by rw [hm.2 e] at h2;cases h2
    rw [if_neg (fun e=>h3 (e1.1 e)),if_pos (e2.2 (by omega))]
def pLt (p q:A0):Prop:=aLt p.fAddr q.fAddr∨(¬ aLt q.fAddr p.fAddr∧p.fLen<q.fLen)
instance (p q:A0):Decidable (pLt p q):=by unfold pLt;infer_instance
def cmpP (p q:A0):Int:=if pLt p q then -1 else if pLt q p then 1 else 0
theorem A6c {a b:E7} (h:aLt a b):¬ aLt b a:=by
 unfold aLt at *
 rcases h with ⟨h1,h2⟩ | ⟨h1,h2⟩
 ·rintro(⟨h3,h4⟩ | ⟨h3,h4⟩)
  ·rw [h2] at h3;cases h3
  ·rw [h1,h2] at h3;cases h3
 ·rintro(⟨h3,h4⟩ | ⟨h3,h4⟩)
  ·rw [h1,h3] at h4;cases h4
  ·omega
theorem B36 {p q:A0} (ha:aR p.fAddr) (hb:aR q.fAddr):A1d p q=some (cmpP p q):=by
 unfold A1d
 refine K7 (B5t ha hb) (K7 (A09 _ _) (K7 (B6b _ (by simp)) ?_))
 congr 1
 unfold cmpP cmpA pLt
 simp only [orL]
 by_cases h1:aLt p.fAddr q.fAddr
 ·have:=A6c h1
  simp [h1]
 ·by_cases h2:aLt q.fAddr p.fAddr
  ·simp [h1,h2]
  ·simp only [h1,h2,if_false,ne_eq,not_true_eq_false,false_or,not_false_eq_true,true_and]
   by_cases h3:p.fLen<q.fLen
   ·simp [h3]
   ·by_cases h4:q.fLen<p.fLen
    ·simp [h3,h4]
    ·simp [h3,h4]
theorem B1a {p q:A0} (ha:aR p.fAddr) (hb:aR q.fAddr):A1c p q=some (cmpP p q):=by
 unfold A1c
 refine K7 (B4r ha hb) ?_
 unfold cmpP cmpA pLt
 by_cases h1:aLt p.fAddr q.fAddr
 ·have:=A6c h1
  simp [h1]
 ·by_cases h2:aLt q.fAddr p.fAddr
  ·simp [h1,h2]
  ·simp only [h1,h2,if_false,bne_self_eq_false,Bool.false_eq_true,false_or,not_false_eq_true,true_and]
   by_cases h3:p.fLen<q.fLen
   ·simp [h3]
   ·by_cases h4:q.fLen<p.fLen
    ·simp [h3,h4]
    ·simp [h3,h4]
theorem A57 {a b c:E7} (h:aLt a b) (k:aLt b c):aLt a c:=by
 unfold aLt at *
 rcases h with ⟨h1,h2⟩ | ⟨h1,h2⟩<;>rcases k with ⟨k1,k2⟩ | ⟨k1,k2⟩
 ·exact .inl ⟨h1,k2⟩
 ·exact .inl ⟨h1,by rw [← k1];exact h2⟩
 ·exact .inl ⟨by rw [h1];exact k1,k2⟩
 ·exact .inr ⟨h1.trans k1,by omega⟩
theorem A58 {a b:E7} (ha:aR a) (hb:aR b) (h1:¬ aLt a b) (h2:¬ aLt b a):a=b:=by
 unfold aLt at h1 h2
 have hv:a.fV6=b.fV6:=by
  cases h3:a.fV6<;>cases h4:b.fV6
  ·rfl
  ·exact(h1 (.inl ⟨h3,h4⟩)).elim
  ·exact(h2 (.inl ⟨h4,h3⟩)).elim
  ·rfl
 refine B6a ha hb hv ?_
 have e1:¬ nA a<nA b:=fun e=>h1 (.inr ⟨hv,e⟩)
 have e2:¬ nA b<nA a:=fun e=>h2 (.inr ⟨hv.symm,e⟩)
 omega
theorem B5u (a:E7):¬ aLt a a:=fun h=>A6c h h
theorem B1b {p q:A0} (h:pLt p q):¬ pLt q p:=by
 unfold pLt at *
 rcases h with h | ⟨h1,h2⟩
 ·rintro(k | ⟨k1,k2⟩)
  ·exact A6c h k
  ·exact k1 h
 ·rintro(k | ⟨k1,k2⟩)
  ·exact h1 k
  ·omega
theorem A59 {p q r:A0} (hp:aR p.fAddr) (hq:aR q.fAddr) (hr:aR r.fAddr) (h:pLt p q) (k:pLt q r):pLt p r:=by
 unfold pLt at *
 rcases h with h | ⟨h1,h2⟩<;>rcases k with k | ⟨k1,k2⟩
 ·exact .inl (A57 h k)
 ·by_cases e:aLt q.fAddr r.fAddr
  ·exact .inl (A57 h e)
  ·rw [← A58 hq hr e k1];exact .inl h
 ·by_cases e:aLt p.fAddr q.fAddr
  ·exact .inl (A57 e k)
  ·rw [A58 hp hq e h1];exact .inl k
 ·by_cases e:aLt p.fAddr q.fAddr
  ·by_cases e2:aLt q.fAddr r.fAddr
   ·exact .inl (A57 e e2)
   ·rw [← A58 hq hr e2 k1];exact .inl e
  ·rw [A58 hp hq e h1]
   by_cases e2:aLt q.fAddr r.fAddr
   ·exact .inl e2
   ·rw [A58 hq hr e2 k1];exact .inr ⟨B5u _,by omega⟩
theorem B05 {p q:A0} (hp:aR p.fAddr) (hq:aR q.fAddr) (h1:¬ pLt p q) (h2:¬ pLt q p):p=q:=by
 unfold pLt at h1 h2
 have e:=A58 hp hq (fun h=>h1 (.inl h)) (fun h=>h2 (.inl h))
 have hl:p.fLen=q.fLen:=by
  have a1:¬ p.fLen<q.fLen:=fun h=>h1 (.inr ⟨fun h'=>h2 (.inl h'),h⟩)
  have a2:¬ q.fLen<p.fLen:=fun h=>h2 (.inr ⟨fun h'=>h1 (.inl h'),h⟩)
  omega
 obtain⟨a,n⟩:=p
 obtain⟨b,m⟩:=q
 simp only at e hl
 rw [e,hl]
theorem B37 (p:A0):¬ pLt p p:=fun h=>B1b h h
theorem A5a (p q:A0):cmpP p q<0↔pLt p q:=by
 unfold cmpP
 split
 ·simp_all
 ·split<;>simp_all
-- the last address, halves
theorem D8 {S X:Type} (tb:S→Option (X⊕S)) (s:S):loop tb s=(tb s).bind fun | .inl x=>some x | .inr s'=>loop tb s':=by
 cases h:tb s with
 | none =>
  cases h':loop tb s with
  | none=>rfl
  | some x =>
   obtain⟨n,hn⟩:=A52 h'
   cases n with
   | zero=>cases hn
   | succ n=>rw [iter,h] at hn;cases hn
 | some y =>
  cases y with
  | inl x=>exact A4g h
  | inr s' =>
   show loop tb s=loop tb s'
   cases h':loop tb s' with
   | some x=>exact A6i h h'
   | none =>
    cases h2:loop tb s with
    | none=>rfl
    | some x =>
     obtain⟨n,hn⟩:=A52 h2
     cases n with
     | zero=>cases hn
     | succ n =>
      rw [iter,h] at hn
      have:loop tb s'=some x:=A9z (n:=n) hn
      rw [this] at h';cases h'
def mkD (n:Int) (x:E7) (m:Int):D9:=D9.mk 0 [B2.mk false [n]] x m (-1) (-1) [] [] []
def noD:D9:=D9.mk (-1) [] zA (-1) (-1) (-1) [] [] []
structure dOk (n:Int) (x:E7) (m:Int):Prop where
 asn:1≤n∧n≤4294967295
 next:aV x
 nz:x≠zA
 med:0≤m∧m≤4294967295
theorem B1c:U6=some noD:=rfl
theorem B40:A23=some noD:=rfl
theorem B2d {n:Int} (h:1≤n∧n≤4294967295):T3 [B2.mk false [n]]=some true:=by
 unfold T3
 rw [D8]
 simp only [P9]
 simp [idx,I3,jn]
 rw [D8]
 simp [U8,idx,I3,jn,Z7,h.1,h.2,show ¬ 4294967295<n by omega]
 rw [D8]
 simp [U8]
 rw [D8]
 simp [P9]
theorem B1d:T3 []=some true:=by
 unfold T3
 rw [D8]
 simp [P9]
theorem B1e {n:Int} (h:1≤n∧n≤4294967295):A0j [B2.mk false [n]]=some true:=by
 unfold A0j
 rw [D8]
 simp only [U4]
 simp [idx,I3,jn]
 rw [D8]
 simp [U3,idx,I3,jn,show ¬ n<1 by omega,show ¬ 4294967295<n by omega]
 rw [D8]
 simp [U3]
 rw [D8]
 simp [U4]
theorem B2e {x:E7} (h:aV x):W9 x=some true:=by
 obtain⟨b,e,hb⟩:=A9o x h.1
 rw [e,hb.2 h]
theorem A8o:Q0 []=some true:=by
 unfold Q0 V4
 rw [D8]
 simp [Q5]
theorem A8p:K1 []=some true:=by
 unfold K1 R7
 rw [D8]
 simp [N9]
theorem A8q:O5 []=some true:=by
 unfold O5
 rw [D8]
 simp [R8]
section
variable {n m:Int} {x:E7}
theorem A8r (h:dOk n x m):J7 (mkD n x m)=some true:=by
 unfold J7 mkD
 simp [jn,H4,B2d h.asn,B2e h.next,A8o,A8p,A8q,show -1≤m by have:=h.med;omega,h.med.2]
theorem B1f:J7 noD=some true:=by
 have hz:aV zA:=⟨⟨by decide,by decide⟩,.inr (by decide)⟩
 unfold J7 noD
 simp [jn,H4,B1d,B2e hz,A8o,A8p,A8q]
-- copies
theorem B38:T0 (mkD n x m)=some (mkD n x m):=by
 unfold T0 mkD
 rw [D8]
 simp [S4,idx,A3q,chk,LIM,I3]
 rw [D8]
 simp [S4]
 rw [D8]
 simp [X0,A0m,A0n,chk]
theorem B2f:K0 (mkD n x m)=some (mkD n x m):=by
 unfold K0 mkD
 rw [D8]
 simp [N4,idx,chk,LIM,I3]
 rw [D8]
 simp [N4]
 rw [D8]
 simp [R6]
-- comparisons
open Classical in
noncomputable def aD (a b:D9):Bool:=decide (a=b)
theorem A5t {a b:D9}:aD a b=true↔a=b:=by unfold aD;simp
theorem B06 (a:D9):aD a a=true:=A5t.2 rfl
theorem B6z {a b:D9} (h:a≠b):aD a b=false:=by
 rw [Bool.eq_false_iff];exact fun e=>h (A5t.1 e)
theorem eqI1 (a b:Int):A0u [a] [b]=some (a==b):=by
 unfold A0u
 rw [D8]
 by_cases h:a=b
 ·simp [Q1,idx,I3,h]
  rw [D8]
  simp [Q1]
 ·simp [Q1,idx,I3,h]
theorem B5v {n' m':Int} {x':E7}:A0d (mkD n x m) (mkD n' x' m')=some (aD (mkD n x m) (mkD n' x' m')):=by
 unfold A0d mkD
 have e1:S5 [B2.mk false [n]] [B2.mk false [n']]=some (n==n'):=by
  unfold S5
  rw [D8]
  by_cases h:n=n'
  ·simp [K6,idx,I3,Z9,jn,eqI1,h]
   rw [D8]
   simp [K6]
  ·simp [K6,idx,I3,Z9,jn,eqI1,h]
 have e2:X3 [] []=some true:=by unfold X3;rw [D8];simp [V5]
 have e3:X4 [] []=some true:=by unfold X4;rw [D8];simp [V6]
 have e4:P2 [] []=some true:=by unfold P2;rw [D8];simp [P7]
 have ea:x=x'↔(x.fV6=x'.fV6∧x.fHi=x'.fHi∧x.fLo=x'.fLo):=by
  constructor
  ·intro e;subst e;exact⟨rfl,rfl,rfl⟩
  ·rintro⟨e1,e2,e3⟩;cases x;cases x';simp_all
 have hD:aD (mkD n x m) (mkD n' x' m')=(((decide (x=x'))&&(decide (m=m')))&&(decide (n=n'))):=by
  rw [Bool.eq_iff_iff,A5t]
  simp [mkD,and_assoc,and_comm,and_left_comm]
 have hD':=hD
 unfold mkD at hD'
 rw [hD']
 simp only [jn,e1,e2,e3,e4,Option.bind_some]
 by_cases h1:x=x'
 ·subst h1
  by_cases h2:m=m'
  ·subst h2
   by_cases h3:n=n'
   ·simp [h3]
   ·simp [h3]
  ·simp [h2]
 ·have hx:¬ (x.fV6=x'.fV6∧x.fHi=x'.fHi∧x.fLo=x'.fLo):=fun e=>h1 (ea.2 e)
  simp [h1]
  intro a b c
  exact absurd ⟨a,b,c⟩ hx
theorem sameI1 (a b:Int):U2 [a] [b]=some (a==b):=by
 unfold U2
 rw [D8]
 by_cases h:a=b
 ·simp [L7,idx,I3,h]
  rw [D8]
  simp [L7]
 ·simp [L7,idx,I3,h]
theorem B6m {n' m':Int} {x':E7}:I0 (mkD n x m) (mkD n' x' m')=some (aD (mkD n x m) (mkD n' x' m')):=by
 unfold I0
 have e0:(loop (H1 (mkD n x m) (mkD n' x' m')) 0)=some (if n=n' then .inr () else .inl ()):=by
  rw [D8]
  by_cases h:n=n'
  ·simp [H1,mkD,idx,I3,jn,sameI1,h]
   rw [D8]
   simp [H1]
  ·simp [H1,mkD,idx,I3,jn,sameI1,h]
 have e1:(loop (I8 (mkD n x m) (mkD n' x' m')) 0)=some (.inr ()):=by rw [D8];simp [I8,mkD]
 have e2:(loop (I9 (mkD n x m) (mkD n' x' m')) 0)=some (.inr ()):=by rw [D8];simp [I9,mkD]
 have e3:(loop (J0 (mkD n x m) (mkD n' x' m')) 0)=some (.inr ()):=by rw [D8];simp [J0,mkD]
 have ea:x=x'↔(x.fV6=x'.fV6∧x.fHi=x'.fHi∧x.fLo=x'.fLo):=by
  constructor
  ·intro e;subst e;exact⟨rfl,rfl,rfl⟩
  ·rintro⟨e1,e2,e3⟩;cases x;cases x';simp_all
 have hD:aD (mkD n x m) (mkD n' x' m')=(((decide (x=x'))&&(decide (m=m')))&&(decide (n=n'))):=by
  rw [Bool.eq_iff_iff,A5t]
  simp [mkD,and_assoc,and_comm,and_left_comm]
 rw [hD]
 simp only [e0,e1,e2,e3,Option.bind_some]
 by_cases h1:x=x'
 ·subst h1
  by_cases h2:m=m'
  ·subst h2
   by_cases h3:n=n'
   ·simp [h3,mkD]
   ·simp [h3,mkD]
  ·simp [h2,mkD]
 ·have hx:¬ (x.fV6=x'.fV6∧x.fHi=x'.fHi∧x.fLo=x'.fLo):=fun e=>h1 (ea.2 e)
  have hb:((x.fV6==x'.fV6)&&((x.fHi==x'.fHi)&&((x.fLo==x'.fLo)&&true)))=false:=by
   rw [Bool.eq_false_iff]
   intro e
   simp at e
   exact hx e
  simp [h1,mkD,hb]
  intro a b c
  exact absurd ⟨a,b,c⟩ hx
end
theorem B4s:A0p noD=some true:=by
 unfold A0p
 simp [B1c,noD,I3,zA]
theorem A6d {x:E7} (h:aV x):Tot (T7 x) (fun b=>8*b.length=wid x.fV6):=by
 unfold T7
 refine Tot.bindOf (B2e h) ?_
 refine Tot.iteF rfl ?_
 refine Tot.jnR (fun m:Int=>∃ k:Nat,m=k∧8*k=wid x.fV6∧1≤k∧k≤16) (fun j hj => ?_) (fun m hm => ?_)
 ·refine Tot.ite (fun e=>hj _ ⟨16,rfl,by simp [wid,e],by omega,by omega⟩) (fun e=>hj _ ⟨4,rfl,by simp [wid,e],by omega,by omega⟩)
 ·obtain⟨k,rfl,hk,h1,h2⟩:=hm
  refine Tot.chk (by simp;show k≤4294967296;omega) ?_
  refine Tot.bindLoop (fun s:Int×List Int×E7=>s.2.1.length=k ∧ -1≤s.1∧s.1<k) (fun s=>(s.1+1).toNat) (fun b=>b.length=k) ⟨by simp,by rw [I3 (by omega) (by omega)];show -1≤(k:Int)-1;omega,by rw [I3 (by omega) (by omega)];show(k:Int)-1<k;omega⟩ (fun s hs => ?_) (fun b hb=>Tot.some (by rw [hb];exact hk))
  obtain⟨i,b,a⟩:=s
  obtain⟨g1,g2,g3⟩:=hs
  simp only at g1 g2 g3
  unfold A1l
  refine Tot.ite (fun e => ?_) (fun e=>Tot.out g1)
  have hi:0≤i:=by simpa using e
  refine Tot.bindIdx i.toNat (by omega) (by show i.toNat<b.length;omega) ?_
  refine Tot.bindIdx i.toNat (by omega) (by show i.toNat<b.length;omega) ?_
  have e1:w64 (i-1)=i-1:=I3 (by omega) (by omega)
  refine Tot.next ⟨by simpa using g1,?_,?_⟩ ?_
  ·show -1≤w64 (i-1);rw [e1];omega
  ·show w64 (i-1)<k;rw [e1];omega
  ·show(w64 (i-1)+1).toNat<(i+1).toNat;rw [e1];omega
def pc (p:A0):Nat:=1+(p.fLen.toNat+7) / 8
def clen (v:Bool):List A0→Nat
 | []=>0
 | p :: l=>(if p.fAddr.fV6=v then pc p else 0)+clen v l
theorem B1g (v:Bool):∀ (l m:List A0),clen v (l++m)=clen v l+clen v m
 | [],m=>by simp [clen]
 | p :: l,m=>by simp only [List.cons_append,clen,B1g v l m];omega
theorem B4t {p:A0} (h:pV p):pc p≤17∧(p.fLen.toNat+7) / 8≤wid p.fAddr.fV6 / 8∧w64 (Int.tdiv (w64 (p.fLen+7)) 8)=(((p.fLen.toNat+7) / 8:Nat):Int):=by
 have h0:=h.len0
 have h1:=h.len1
 have hw:wid p.fAddr.fV6=32∨wid p.fAddr.fV6=128:=by unfold wid;split<;>simp
 have e1:w64 (p.fLen+7)=p.fLen+7:=I3 (by omega) (by omega)
 have e2:Int.tdiv (p.fLen+7) 8=(((p.fLen.toNat+7) / 8:Nat):Int):=by
  rw [Int.tdiv_eq_ediv_of_nonneg (by omega)]
  omega
 refine⟨by unfold pc;omega,by omega,?_⟩
 rw [e1,e2]
 exact I3 (by omega) (by omega)
theorem A5b (v:Bool):∀ (l:List A0),(∀ p∈l,pV p)→clen v l≤17*l.length
 | [],_=>by simp [clen]
 | p :: l,h=>by
  have h1:=(B4t (h p (List.mem_cons_self ..))).1
  have h2:=A5b v l fun q hq=>h q (List.mem_cons_of_mem _ hq)
  simp only [clen,List.length_cons]
  split<;>omega
theorem B1h {f:E7→Option (List Int)} (hf:∀ x,aV x→Tot (f x) (fun b=>8*b.length=wid x.fV6)) {x:A0} (hx:pV x) {v:Bool} {b:List Int} {α:Type} {P:α→Prop} {j:List Int→Option α} {N:Nat} (hb:b.length≤N) (hN:N≤100000)
  (hj:∀ b':List Int,b'.length=b.length+(if x.fAddr.fV6=v then pc x else 0)→Tot (j b') P) :
  Tot (if (x.fAddr.fV6==v)=true then
   chk (decide ((b++([(IntKind.u8.wrap x.fLen)]:List Int)).length≤LIM)) <|
   (f x.fAddr).bind fun r42 =>
   chk ((decide (0≤(w64 (Int.tdiv (w64 (x.fLen+(7:Int))) (8:Int))))&&decide (0≤(w64 (Int.tdiv (w64 (x.fLen+(7:Int))) (8:Int))).toNat)&&decide ((w64 (Int.tdiv (w64 (x.fLen+(7:Int))) (8:Int))).toNat≤r42.length))) <|
   chk (decide (((b++([(IntKind.u8.wrap x.fLen)]:List Int))++((r42.take ((w64 (Int.tdiv (w64 (x.fLen+(7:Int))) (8:Int))).toNat)).drop 0)).length≤LIM)) <|
   j ((b++([(IntKind.u8.wrap x.fLen)]:List Int))++((r42.take ((w64 (Int.tdiv (w64 (x.fLen+(7:Int))) (8:Int))).toNat)).drop 0))
   else j b) P:=by
 obtain⟨h1,h2,h3⟩:=B4t hx
 refine Tot.ite (fun e => ?_) (fun e=>hj b (by rw [if_neg (by simpa using e)];rfl))
 have e':x.fAddr.fV6=v:=by simpa using e
 refine Tot.chk (decide_eq_true (show _≤4294967296 by simp;omega)) ?_
 refine Tot.bindT (hf _ hx.addr) fun r hr => ?_
 rw [h3]
 have hle:(p:Nat)→p=(x.fLen.toNat+7) / 8→p≤r.length:=fun p hp=>by omega
 have hk:(x.fLen.toNat+7) / 8≤r.length:=hle _ rfl
 refine Tot.chk (by rw [Bool.and_eq_true,Bool.and_eq_true];exact⟨⟨decide_eq_true (by omega),decide_eq_true (Nat.zero_le _)⟩,decide_eq_true (show((((x.fLen.toNat+7) / 8:Nat):Int)).toNat≤r.length by rw [Int.toNat_natCast];exact hk)⟩) ?_
 have hl:((b++([(IntKind.u8.wrap x.fLen)]:List Int))++((r.take ((((x.fLen.toNat+7) / 8:Nat):Int)).toNat).drop 0)).length=b.length+pc x:=by
  simp only [List.drop_zero,List.length_append,List.length_take,List.length_cons,List.length_nil,Int.toNat_natCast,pc]
  omega
 refine Tot.chk (decide_eq_true (show _≤4294967296 by rw [hl];omega)) ?_
 exact hj _ (by rw [hl,if_pos e'])
theorem A6r {l:List A0} (hl:∀ p∈l,pV p) (h256:l.length≤256) (v:Bool) {b0:List Int} (hb0:b0.length≤10000):Tot (T9 b0 l v) (fun b=>b.length=b0.length+clen v l):=by
 unfold T9
 refine Tot.bindRng l.length (fun k (b:List Int)=>((k:Int),b)) (fun k b=>b.length=b0.length+clen v (l.take k)) (fun b=>b.length=b0.length+clen v l) b0 rfl (by simp [clen]) (fun k b hk hb => ?_) (fun b hb => ?_) (fun b hb=>Tot.some hb)
 ·unfold V0
  refine Tot.iteT (by simpa using hk) ?_
  refine Tot.bindIdx k rfl hk ?_
  have hx:=hl _ (List.getElem_mem hk)
  have hle:=A5b v (l.take k) fun p hp=>hl p (List.mem_of_mem_take hp)
  have hlt:(l.take k).length=k:=by simp;omega
  refine Tot.jn ?_
  refine B1h (f:=T7) (fun x=>A6d) hx (v:=v) (b:=b) (j:=fun m38=>some (Sum.inr (w64 ((k:Int)+1),m38))) (N:=10000+17*256) (by show b.length≤_;omega) (by omega) fun b' hb' => ?_
  refine Tot.step b' (by show(w64 ((k:Int)+1),b')=_;rw [F3 hk (by omega)]) ?_
  rw [G8 hk,B1g,← Nat.add_assoc,← hb,hb']
  simp [clen]
 ·unfold V0
  refine Tot.iteF (by simp) ?_
  exact Tot.last (by rw [List.take_length] at hb;exact hb)
theorem A5u {l:List A0} (hl:∀ p∈l,pV p) (h256:l.length≤256) (v:Bool):Tot (M4 l v) (fun b=>b.length=clen v l):=by
 have:=A6r hl h256 v (b0:=[]) (by simp)
 have e:M4 l v=T9 [] l v:=rfl
 rw [e]
 exact this.mono fun b hb=>by simpa using hb
-- joining
def hd (n:Nat):Nat:=if 255<n then 4 else 3
def jlen:List A7→Nat
 | []=>0
 | x :: l=>hd x.fData.length+x.fData.length+jlen l
theorem A4y:∀ (l m:List A7),jlen (l++m)=jlen l+jlen m
 | [],m=>by simp [jlen]
 | x :: l,m=>by simp only [List.cons_append,jlen,A4y l m];omega
theorem A6s {l m:List A7} (h:l.Perm m):jlen l=jlen m:=by
 induction h with
 | nil=>rfl
 | cons x _ ih=>simp only [jlen,ih]
 | swap x y l=>simp only [jlen];omega
 | trans _ _ ih1 ih2=>exact ih1.trans ih2
structure uok (x:A7):Prop where
 flags:0≤x.fFlags∧x.fFlags≤255
 type:0≤x.fType∧x.fType≤255
 data:x.fData.length≤65535
theorem B4u {l:List A7} (h:∀ x∈l,uok x) (hl:l.length≤100):Tot (X2 l) (fun r=>(r.2=0↔jlen l≤2048)∧(jlen l≤2048→r.1.length=jlen l)∧r.1.length≤2048):=by
 unfold X2
 refine Tot.bindRng l.length (fun k (_:Unit)=>(k:Int)) (fun k _=>True) (fun x=>x = .inr ()) () rfl trivial (fun k b hk _ => ?_) (fun b _ => ?_) (fun x hx => ?_)
 ·unfold Q7
  refine Tot.iteT (by simpa using hk) ?_
  refine Tot.bindIdx k rfl hk ?_
  have hu:=h _ (List.getElem_mem hk)
  refine Tot.jnR (fun m=>m=false) (fun j hj => ?_) (fun m hm => ?_)
  ·simp only [H4,Option.bind_some,decide_eq_true hu.flags.1,decide_eq_true hu.flags.2,decide_eq_true hu.type.1,decide_eq_true hu.type.2,Bool.and_self,Bool.not_true]
   refine Tot.iteF rfl ?_
   refine hj _ ?_
   simp only [Bool.false_or]
   rw [decide_eq_false]
   have:=hu.data
   omega
  ·subst hm
   refine Tot.iteF rfl ?_
   exact Tot.step () (F3 hk (by omega)) trivial
 ·unfold Q7
  refine Tot.iteF (by simp) ?_
  exact Tot.last rfl
 ·subst hx
  simp only
  refine Tot.bindRng l.length (fun k (b:List Int)=>((k:Int),b)) (fun k b=>b.length=jlen (l.take k)∧b.length≤2048) (fun x=>(x = .inl ()∧2048<jlen l)∨∃ b,x = .inr b∧b.length=jlen l∧jlen l≤2048) [] rfl (by simp [jlen]) (fun k b hk hb => ?_) (fun b hb => ?_) (fun x hx => ?_)
  ·unfold Q8
   refine Tot.iteT (by simpa using hk) ?_
   refine Tot.bindIdx k rfl hk ?_
   have hu:=h _ (List.getElem_mem hk)
   have hd':=hu.data
   refine Tot.jnR (fun m:List Int=>m.length=b.length+hd l[k].fData.length) (fun j hj => ?_) (fun m hm => ?_)
   ·refine Tot.ite (fun e => ?_) (fun e => ?_)
    ·have e':255<l[k].fData.length:=by have:=of_decide_eq_true e;omega
     refine Tot.chk (decide_eq_true (show _≤4294967296 by simp;omega)) (hj _ ?_)
     simp [hd,e']
    ·have e':¬ 255<l[k].fData.length:=by have:=of_decide_eq_false e;omega
     refine Tot.chk (decide_eq_true (show _≤4294967296 by simp;omega)) (hj _ ?_)
     simp [hd,e']
   ·have hlen:(m++l[k].fData).length=jlen (l.take (k+1)):=by
     rw [G8 hk,A4y,← hb.1,List.length_append,hm]
     simp [jlen];omega
    have hh:hd l[k].fData.length≤4:=by unfold hd;split<;>omega
    refine Tot.chk (decide_eq_true (show _≤4294967296 by rw [List.length_append];omega)) ?_
    refine Tot.ite (fun e => ?_) (fun e => ?_)
    ·refine Tot.stop (.inl ⟨rfl,?_⟩)
     have e':2048<(m++l[k].fData).length:=by have:=of_decide_eq_true e;omega
     rw [hlen] at e'
     have:jlen l=jlen (l.take (k+1))+jlen (l.drop (k+1)):=by rw [← A4y,List.take_append_drop]
     omega
    ·have e':¬ 2048<(m++l[k].fData).length:=by have:=of_decide_eq_false e;omega
     refine Tot.step _ (by show(w64 ((k:Int)+1),_)=_;rw [F3 hk (by omega)]) ⟨hlen,by omega⟩
  ·unfold Q8
   refine Tot.iteF (by simp) ?_
   rw [List.take_length] at hb
   exact Tot.last (.inr ⟨b,rfl,hb.1,by omega⟩)
  ·rcases hx with ⟨rfl,hx⟩ | ⟨b,rfl,h1,h2⟩
   ·refine Tot.some ⟨⟨fun e=>by simp at e,fun e=>by omega⟩,fun e=>by omega,by simp⟩
   ·refine Tot.some ⟨⟨fun _=>h2,fun _=>rfl⟩,fun _=>h1,by show b.length≤2048;omega⟩
theorem sortU {cmp:A7→A7→Option Int} (hc:∀ x y,cmp x y=J3 x.fType y.fType) {l:List A7} (hl:l.length≤100):Tot (sortF l cmp) (fun r=>r.Perm l):=by
 obtain⟨r,h1,h2,_⟩:=A9m (xs:=l) (cmp:=cmp) (fun x y=>if x.fType<y.fType then -1 else if y.fType<x.fType then 1 else 0) (fun x _ y _=>by rw [hc,A09])
  (fun x _=>by simp) (fun x _ y _ z _ h1 h2=>by
   repeat' split at h1
   all_goals repeat' split at h2
   all_goals repeat' split
   all_goals omega) (fun x _ y _ z _ h1 h2=>by
   repeat' split at h1
   all_goals repeat' split at h2
   all_goals repeat' split
   all_goals omega) (by omega)
 exact⟨r,h1,h2⟩
theorem uk {t:Int} {d:List Int} (h1:0≤ilk gv0 t∧ilk gv0 t≤255) (h2:0≤t∧t≤255) (h3:d.length≤65535):uok (A7.mk (ilk gv0 t) t d):=⟨h1,h2,h3⟩
theorem B4v {t:Int} {d:List Int}:J4 true t d=some [A7.mk (ilk gv0 t) t d]:=by
 unfold J4
 simp [jn,chk,LIM]
theorem B4w {t:Int} {d:List Int}:J4 false t d=some []:=rfl
theorem B07 {t:Int} {d:List Int} {l:List A7} (hl:l.length≤100):D7 true t d l=some (l++[A7.mk (ilk gv0 t) t d]):=by
 unfold D7
 have:l.length+1≤LIM:=by show _≤4294967296;omega
 simp [jn,chk,this]
theorem A18 {t:Int} {d:List Int} {l:List A7}:D7 false t d l=some l:=rfl
theorem put1 (v:Int):Tot (N2 [v]) (fun b=>b.length=4):=by
 unfold N2
 rw [D8]
 simp only [P1]
 simp [idx,I3,chk,LIM]
 rw [D8]
 simp [P1]
 exact⟨_,rfl,rfl⟩
theorem path1 (n:Int):Tot (P0 [B2.mk false [n]]) (fun b=>b.length=6):=by
 unfold P0
 rw [D8]
 have h:∀ b:List Int,b.length=2→Tot (N1 b [n]) (fun c=>c.length=6):=fun b hb=>by
  unfold N1
  rw [D8]
  simp only [O9]
  simp [idx,I3,chk,LIM,hb]
  rw [D8]
  simp [O9]
  exact⟨_,rfl,by simp [hb]⟩
 obtain⟨c,e,hc⟩:=h [2,IntKind.u8.wrap 1] rfl
 simp [M9,idx,I3,chk,LIM,jn,e]
 rw [D8]
 simp [M9]
 exact⟨_,rfl,hc⟩
theorem path0:P0 []=some []:=by unfold P0;rw [D8];simp [M9]
theorem com0:L1 []=some []:=by unfold L1;rw [D8];simp [M0]
theorem lar0:U9 []=some []:=by unfold U9;rw [D8];simp [T8]
def alen (x:E7):Nat:=20+(if x.fV6=true then 0 else 7)
section
variable {n m:Int} {x:E7}
theorem nz_b (h:x≠zA):((x.fV6==false)&&((x.fHi==0)&&((x.fLo==0)&&true)))=false:=by
 rw [Bool.eq_false_iff]
 intro e
 simp at e
 exact h (by cases x;simp_all [zA])
theorem B41 (h:dOk n x m):Tot (K5 (mkD n x m)) (fun r=>(∀ y∈r.1,uok y)∧r.1.length≤4∧jlen r.1=alen x):=by
 unfold K5
 refine Tot.bindOf (A8r h) ?_
 refine Tot.iteF rfl ?_
 refine Tot.bindOf (show J4 ((mkD n x m).fOrigin != -1) 1 _=_ from B4v) ?_
 refine Tot.bindT (path1 n) fun b2 h2 => ?_
 refine Tot.bindOf (show D7 (((mkD n x m).fOrigin != -1) || _) 2 b2 _=_ from B07 (by simp)) ?_
 refine Tot.bindT (A6d h.next) fun b3 h3 => ?_
 have key:∃ l:List A7,D7 ((!(mkD n x m).fNext.fV6)&&(!(((mkD n x m).fNext.fV6==false)&&(((mkD n x m).fNext.fHi==(0:Int))&&(((mkD n x m).fNext.fLo==(0:Int))&&true))))) 3 b3 ([A7.mk (ilk gv0 1) 1 [IntKind.u8.wrap (mkD n x m).fOrigin]]++[A7.mk (ilk gv0 2) 2 b2])=some l ∧
   (∀ y∈l,uok y)∧l.length≤3∧jlen l=13+(if x.fV6=true then 0 else 7):=by
  have e1:uok (A7.mk (ilk gv0 1) 1 [IntKind.u8.wrap (mkD n x m).fOrigin]):=uk (by decide) (by decide) (by simp)
  have e2:uok (A7.mk (ilk gv0 2) 2 b2):=uk (by decide) (by decide) (by simp [h2])
  show ∃ l:List A7,D7 ((!x.fV6)&&(!((x.fV6==false)&&((x.fHi==0)&&((x.fLo==0)&&true))))) 3 b3 _=some l∧_
  rw [nz_b h.nz]
  cases hv:x.fV6 with
  | true =>
   refine⟨_,rfl,?_,by simp,?_⟩
   ·intro y hy
    simp at hy
    rcases hy with rfl | rfl
    ·exact e1
    ·exact e2
   ·simp [jlen,hd,h2]
  | false =>
   have h3':8*b3.length=wid x.fV6:=h3
   have hb:b3.length=4:=by rw [hv] at h3';simp [wid] at h3';omega
   have e3:uok (A7.mk (ilk gv0 3) 3 b3):=uk (by decide) (by decide) (by simp [hb])
   refine⟨_,B07 (by simp),?_,by simp,?_⟩
   ·intro y hy
    simp at hy
    rcases hy with rfl | rfl | rfl
    ·exact e1
    ·exact e2
    ·exact e3
   ·simp [jlen,hd,h2,hb]
 obtain⟨l,hl1,hl2,hl3,hl4⟩:=key
 refine Tot.bindOf hl1 ?_
 refine Tot.bindT (put1 _) fun b4 h4 => ?_
 refine Tot.bindOf (show D7 (m != -1) 4 b4 l=some (l++[A7.mk (ilk gv0 4) 4 b4]) by
  have:(m != -1)=true:=by have:=h.med;simp;omega
  rw [this];exact B07 (by omega)) ?_
 refine Tot.bindT (put1 _) fun b5 _ => ?_
 refine Tot.bindOf (show D7 ((mkD n x m).fPref != -1) 5 b5 _=_ from A18) ?_
 refine Tot.bindOf com0 ?_
 refine Tot.bindOf (show D7 (decide ((0:Int)<((mkD n x m).fCommunities.length:Int))) 8 [] _=_ from A18) ?_
 refine Tot.bindOf lar0 ?_
 refine Tot.bindOf (show D7 (decide ((0:Int)<((mkD n x m).fLarge.length:Int))) 32 [] _=_ from A18) ?_
 refine Tot.bindT (put1 _) fun b6 _ => ?_
 refine Tot.bindOf (show D7 ((mkD n x m).fOTC != -1) 35 b6 _=_ from A18) ?_
 refine Tot.bindOf (x:=l++[A7.mk (ilk gv0 4) 4 b4]) (by rw [D8];simp [M3,mkD]) ?_
 refine Tot.bindT (sortU (cmp:=fun x y=>J5 x y) (fun x y=>by unfold J5;rw [A09];rfl) (by simp;omega)) fun r hr => ?_
 refine Tot.chk (decide_eq_true hr.length_eq) ?_
 have e4:uok (A7.mk (ilk gv0 4) 4 b4):=uk (by decide) (by decide) (by simp [h4])
 refine Tot.some ⟨fun y hy => ?_,?_,?_⟩
 ·have:=hr.mem_iff.1 hy
  simp at this
  rcases this with this | rfl
  ·exact hl2 y this
  ·exact e4
 ·rw [hr.length_eq];simp;omega
 ·rw [A6s hr,A4y,hl4]
  simp [jlen,hd,h4,alen]
  omega
theorem B4x:Tot (K5 noD) (fun r=>r.1=[]):=by
 have hz:aV zA:=⟨⟨by decide,by decide⟩,.inr (by decide)⟩
 unfold K5
 refine Tot.bindOf B1f ?_
 refine Tot.iteF rfl ?_
 refine Tot.bindOf (show J4 (noD.fOrigin != -1) 1 _=_ from B4w) ?_
 refine Tot.bindOf path0 ?_
 refine Tot.bindOf (show D7 ((noD.fOrigin != -1) || decide ((0:Int)<(noD.fPath.length:Int))) 2 [] _=_ from A18) ?_
 refine Tot.bindT (A6d (show aV noD.fNext from hz)) fun b3 h3 => ?_
 refine Tot.bindOf (show D7 ((!noD.fNext.fV6)&&(!((noD.fNext.fV6==false)&&((noD.fNext.fHi==(0:Int))&&((noD.fNext.fLo==(0:Int))&&true))))) 3 b3 _=_ from A18) ?_
 refine Tot.bindT (put1 _) fun b4 h4 => ?_
 refine Tot.bindOf (show D7 (noD.fMED != -1) 4 b4 _=_ from A18) ?_
 refine Tot.bindT (put1 _) fun b5 _ => ?_
 refine Tot.bindOf (show D7 (noD.fPref != -1) 5 b5 _=_ from A18) ?_
 refine Tot.bindOf com0 ?_
 refine Tot.bindOf (show D7 (decide ((0:Int)<(noD.fCommunities.length:Int))) 8 [] _=_ from A18) ?_
 refine Tot.bindOf lar0 ?_
 refine Tot.bindOf (show D7 (decide ((0:Int)<(noD.fLarge.length:Int))) 32 [] _=_ from A18) ?_
 refine Tot.bindT (put1 _) fun b6 _ => ?_
 refine Tot.bindOf (show D7 (noD.fOTC != -1) 35 b6 _=_ from A18) ?_
 refine Tot.bindOf (x:=([]:List A7)) (by rw [D8];simp [M3,noD]) ?_
 refine Tot.bindT (sortU (cmp:=fun x y=>J5 x y) (fun x y=>by unfold J5;rw [A09];rfl) (by simp)) fun r hr => ?_
 refine Tot.chk (decide_eq_true hr.length_eq) ?_
 exact Tot.some hr.eq_nil
end
end Go.Proofs.YtplbaenjbihekaaGreatDoor
