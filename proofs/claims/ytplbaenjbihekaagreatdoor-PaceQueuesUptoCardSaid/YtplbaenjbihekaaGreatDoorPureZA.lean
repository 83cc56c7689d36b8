/- Words and prefixes; which attributes are valid; copies and comparisons, in plain Lean. -/
import Derived.Test.YtplbaenjbihekaaGreatDoorFns
import Derived.Test.YtplbaenjbihekaaGreatDoorVcO
import Derived.Test.YtplbaenjbihekaaGreatDoorVcQ
namespace Go.Proofs.YtplbaenjbihekaaGreatDoor
open Go Go.Vc
abbrev I64 (x:Int):Prop:=IntKind.i64.min≤x∧x≤IntKind.i64.max
theorem A6l {n:Nat} (h:n<18446744073709551616):IntKind.u64.wrap (n:Int)=n:=by
 rw [IntKind.wrap_u64];omega
theorem B9m (n:Nat):IntKind.u64.wrap (n:Int)=((n % 18446744073709551616:Nat):Int):=by
 rw [IntKind.wrap_u64];omega
theorem B8f (n:Int):IntKind.u8.wrap n=n % 256:=by simp [IntKind.wrap,IntKind.bits,IntKind.signed]
theorem C0m {a b:Nat} (ha:a<18446744073709551616) (hb:b<18446744073709551616):bitI .or .u64 (a:Int) (b:Int)=((a ||| b:Nat):Int):=by
 show IntKind.u64.wrap ((BitVec.ofInt 64 (a:Int) ||| BitVec.ofInt 64 (b:Int)).toNat:Int)=_;have e:(BitVec.ofInt 64 (a:Int) ||| BitVec.ofInt 64 (b:Int)).toNat=a ||| b:=by
  rw [BitVec.toNat_or,BitVec.ofInt_natCast,BitVec.toNat_ofNat,BitVec.ofInt_natCast,BitVec.toNat_ofNat,Nat.mod_eq_of_lt (show a<2 ^ 64 from ha),Nat.mod_eq_of_lt (show b<2 ^ 64 from hb)]
 rw [e,A6l (Nat.or_lt_two_pow (n:=64) ha hb)]
theorem B8g (n k:Nat) (hk:k≤64):shrI .u64 (n:Int) (k:Int)=((n / 2 ^ k:Nat):Int):=by
 show(n:Int).fdiv (2 ^ (min (k:Int).toNat IntKind.u64.bits))=_;rw [show(min (k:Int).toNat IntKind.u64.bits)=k from by show min k 64=k;omega,Int.fdiv_eq_ediv_of_nonneg _ (Int.le_of_lt (Int.pow_pos (by decide)))];have:((2:Int) ^ k)=((2 ^ k:Nat):Int):=by rw [Int.natCast_pow];rfl
 rw [this];rfl
theorem B26 (n k:Nat) (hk:k≤64):shlI .u64 (n:Int) (k:Int)=((n*2 ^ k % 18446744073709551616:Nat):Int):=by
 show IntKind.u64.wrap ((n:Int)*2 ^ (min (k:Int).toNat IntKind.u64.bits))=_;rw [show(min (k:Int).toNat IntKind.u64.bits)=k from by show min k 64=k;omega];have:(n:Int)*(2:Int) ^ k=((n*2 ^ k:Nat):Int):=by rw [Int.natCast_mul,Int.natCast_pow];rfl
 rw [this,B9m]
def cut (n k:Nat):Nat:=n / 2 ^ k*2 ^ k
theorem B0d (n k i:Nat):(cut n k).testBit i=(decide (k≤i)&&n.testBit i):=by
 unfold cut;rw [Nat.testBit_mul_two_pow]
 by_cases h:k≤i
 ·rw [decide_eq_true (show i≥k from h),Nat.testBit_div_two_pow,show i-k+k=i from by omega]
 ·rw [decide_eq_false (show ¬ i≥k from h)];simp
theorem B56 (n k:Nat):cut n k≤n:=Nat.div_mul_le_self n (2 ^ k)
theorem B3g {a k:Nat} (ha:a<18446744073709551616) (hk:k≤64):bitI .andNot .u64 (a:Int) ((2 ^ k-1:Nat):Int)=((cut a k:Nat):Int):=by
 have hp:2 ^ k≤2 ^ 64:=Nat.pow_le_pow_right (by decide) hk;have hk0:0<2 ^ k:=Nat.pow_pos (by decide);have e:(BitVec.ofInt 64 (a:Int) &&& ~~~(BitVec.ofInt 64 ((2 ^ k-1:Nat):Int))).toNat=cut a k:=by
  refine Nat.eq_of_testBit_eq fun i => ?_;rw [BitVec.testBit_toNat,BitVec.getLsbD_and,BitVec.getLsbD_not,BitVec.ofInt_natCast,BitVec.ofInt_natCast,BitVec.getLsbD_ofNat,BitVec.getLsbD_ofNat,B0d,Nat.testBit_two_pow_sub_one]
  by_cases h1:i<64
  ·by_cases h2:k≤i
   ·rw [decide_eq_true h1,decide_eq_true h2,decide_eq_false (show ¬ i<k by omega)];simp
   ·rw [decide_eq_true h1,decide_eq_false h2,decide_eq_true (show i<k by omega)];simp
  ·rw [decide_eq_false h1];have:a.testBit i=false:=Nat.testBit_lt_two_pow (Nat.lt_of_lt_of_le (show a<2 ^ 64 from ha) (Nat.pow_le_pow_right (by decide) (by omega)));rw [this];simp
 show IntKind.u64.wrap ((BitVec.ofInt 64 (a:Int) &&& ~~~(BitVec.ofInt 64 ((2 ^ k-1:Nat):Int))).toNat:Int)=_;rw [e,A6l (Nat.lt_of_le_of_lt (B56 a k) ha)]
-- numbers of addresses
def nA (a:E5):Nat:=a.fHi.toNat*18446744073709551616+a.fLo.toNat
def aR (a:E5):Prop:=(0≤a.fHi∧a.fHi<18446744073709551616)∧(0≤a.fLo∧a.fLo<18446744073709551616)
def mkA (v6:Bool) (n:Nat):E5:=E5.mk v6 ((n / 18446744073709551616:Nat):Int) ((n % 18446744073709551616:Nat):Int)
def wid (v6:Bool):Nat:=if v6=true then 128 else 32
theorem B57 {a:E5} (h:aR a):mkA a.fV6 (nA a)=a:=by
 obtain⟨v,hi,lo⟩:=a;obtain⟨⟨h1,h2⟩,h3,h4⟩:=h;simp only at h1 h2 h3 h4;have e1:((nA ⟨v,hi,lo⟩ / 18446744073709551616:Nat):Int)=hi:=by unfold nA;simp only;omega
 have e2:((nA ⟨v,hi,lo⟩ % 18446744073709551616:Nat):Int)=lo:=by unfold nA;simp only;omega
 unfold mkA;rw [e1,e2]
theorem C0n (v:Bool) (n:Nat):nA (mkA v n)=n:=by
 unfold nA mkA;simp only [Int.toNat_natCast];exact Nat.div_add_mod' n 18446744073709551616
def aV (a:E5):Prop:=aR a∧(a.fV6=true∨(a.fHi=0∧a.fLo<4294967296))
theorem C3l {a:E5} (h:aV a):nA a<2 ^ wid a.fV6:=by
 obtain⟨v,hi,lo⟩:=a;obtain⟨⟨⟨h1,h2⟩,h3,h4⟩,h5⟩:=h;simp only at h1 h2 h3 h4 h5;unfold nA wid;simp only;cases v with
 | true =>
  rw [if_pos rfl,show(2:Nat) ^ 128=340282366920938463463374607431768211456 from by decide];omega
 | false =>
  rw [if_neg (by simp),show(2:Nat) ^ 32=4294967296 from by decide];rcases h5 with h5 | h5
  ·cases h5
  ·omega
theorem B7p (v:Bool):wid v≤128:=by unfold wid;split<;>omega
theorem B8h (v:Bool):32≤wid v:=by unfold wid;split<;>omega
theorem C2v {a b:E5} (ha:aR a) (hb:aR b) (h1:a.fV6=b.fV6) (h2:nA a=nA b):a=b:=by
 rw [← B57 ha,← B57 hb,h1,h2]
-- the code's words
theorem B3h (a:E5):A1x a=some ((wid a.fV6:Nat):Int):=by
 unfold A1x wid;cases a.fV6<;>rfl
theorem A7c (a:E5) (h:aR a):Tot (X7 a) (fun b=>b=true↔aV a):=by
 unfold X7;obtain⟨⟨h1,h2⟩,h3,h4⟩:=h;refine Tot.jn (Tot.ite (fun h=>Tot.some ⟨fun _=>⟨⟨⟨h1,h2⟩,h3,h4⟩,.inl h⟩,fun _=>rfl⟩) (fun h=>Tot.some ⟨fun e => ?_,fun e => ?_⟩))
 ·simp only [Bool.and_eq_true,beq_iff_eq,decide_eq_true_eq] at e;exact⟨⟨⟨h1,h2⟩,h3,h4⟩,.inr e⟩
 ·rcases e.2 with e | e
  ·rw [h] at e;cases e
  ·simp [e]
theorem A7l (a:E5):X3 a=X7 a:=rfl
theorem C0o {k:Nat} (hk:k≤128):A3h (k:Int)=some (((2 ^ (k-64)-1:Nat):Int),((2 ^ (min k 64)-1:Nat):Int)):=by
 unfold A3h
 by_cases h:64<k
 ·refine B5z (by simp;omega) ?_;have e1:w64 ((k:Int)-64)=((k-64:Nat):Int):=by rw [H1 (by omega) (by omega)];omega
  have e2:(1:Int)=((1:Nat):Int):=rfl;rw [e1,A6l (by omega),e2,B26 1 (k-64) (by omega),Nat.one_mul];have hp:2 ^ (k-64)≤2 ^ 64:=Nat.pow_le_pow_right (by decide) (by omega);have h0:0<2 ^ (k-64):=Nat.pow_pos (by decide);have e64:(2:Nat) ^ 64=18446744073709551616:=by decide
  rw [Nat.min_eq_right (by omega)];congr 1;refine Prod.ext ?_ rfl;simp only;rw [IntKind.wrap_u64];omega
 ·refine B60 (by simp;omega) ?_;have e2:(1:Int)=((1:Nat):Int):=rfl;rw [A6l (by omega),e2,B26 1 k (by omega),Nat.one_mul,show k-64=0 from by omega,Nat.min_eq_left (by omega)];have hp:2 ^ k≤2 ^ 64:=Nat.pow_le_pow_right (by decide) (by omega);have h0:0<2 ^ k:=Nat.pow_pos (by decide);have e64:(2:Nat) ^ 64=18446744073709551616:=by decide
  congr 1;refine Prod.ext rfl ?_;simp only;rw [IntKind.wrap_u64];omega
theorem B9n (hi lo k:Nat) (hlo:lo<18446744073709551616) (hk:k≤128):cut (hi*18446744073709551616+lo) k=cut hi (k-64)*18446744073709551616+cut lo (min k 64):=by
 have e64:(18446744073709551616:Nat)=2 ^ 64:=by decide
 rw [e64] at hlo ⊢;refine Nat.eq_of_testBit_eq fun i => ?_;have hl:cut lo (min k 64)<2 ^ 64:=Nat.lt_of_le_of_lt (B56 _ _) hlo;rw [B0d,Nat.mul_comm,Nat.testBit_two_pow_mul_add _ hlo,Nat.mul_comm (cut hi (k-64)),Nat.testBit_two_pow_mul_add _ hl,B0d,B0d]
 by_cases h1:i<64
 ·rw [if_pos h1,if_pos h1]
  by_cases h2:k≤i
  ·rw [decide_eq_true h2,decide_eq_true (show min k 64≤i by omega)]
  ·rw [decide_eq_false h2,decide_eq_false (show ¬ min k 64≤i by omega)]
 ·rw [if_neg h1,if_neg h1]
  by_cases h2:k≤i
  ·rw [decide_eq_true h2,decide_eq_true (show k-64≤i-64 by omega)]
  ·rw [decide_eq_false h2,decide_eq_false (show ¬ k-64≤i-64 by omega)]
theorem C0p {a:E5} (ha:aR a) {n:Nat} (hn:n≤wid a.fV6):A3i a (n:Int)=some (mkA a.fV6 (cut (nA a) (wid a.fV6-n))):=by
 obtain⟨v,hi,lo⟩:=a;obtain⟨⟨h1,h2⟩,h3,h4⟩:=ha;simp only at h1 h2 h3 h4 hn ⊢;obtain⟨H,rfl⟩:∃ H:Nat,hi=H:=⟨hi.toNat,by omega⟩;obtain⟨L,rfl⟩:∃ L:Nat,lo=L:=⟨lo.toNat,by omega⟩;have hw:=B7p v;unfold A3i;refine Q8 (B3h _) ?_;simp only;have e:w64 (((wid v:Nat):Int)-(n:Int))=((wid v-n:Nat):Int):=by rw [H1 (by omega) (by omega)];omega
 rw [e];refine Q8 (C0o (by omega)) ?_;simp only;rw [B3g (by omega) (by omega),B3g (by omega) (by omega)];have hn':nA ⟨v,(H:Int),(L:Int)⟩=H*18446744073709551616+L:=by unfold nA;simp
 rw [hn',B9n H L _ (by omega) (by omega)];have hl:=B56 L (min (wid v-n) 64);congr 1;unfold mkA;generalize cut H (wid v-n-64)=X;generalize cut L (min (wid v-n) 64)=Y at hl;congr 1
 ·omega
 ·omega
theorem A65 {α:Type} {Q:List α→Prop} (h0:Q []) (h1:∀ b x,Q b→Q (b++[x])):∀ b,Q b:=fun b=>by
 rw [← List.reverse_reverse b];induction b.reverse with
 | nil=>exact h0
 | cons x l ih=>rw [List.reverse_cons];exact h1 _ _ ih
theorem lt8 {n:Nat} (h:n<256):n<2 ^ 8:=h
def byte (x:Int):Prop:=0≤x∧x<256
def VB (b:List Int):Nat:=b.foldl (fun v x=>v*256+x.toNat) 0
theorem B27 (b:List Int) (x:Int):VB (b++[x])=VB b*256+x.toNat:=by unfold VB;rw [List.foldl_append];rfl
theorem C0q {b:List Int}:(∀ x∈b,byte x)→VB b<2 ^ (8*b.length):=by
 refine A65 (Q:=fun b=>(∀ x∈b,byte x)→VB b<2 ^ (8*b.length)) ?_ ?_ b
 ·intro _;decide
 ·intro b x ih h;have h1:=ih fun y hy=>h y (List.mem_append_left _ hy);have h2:=h x (List.mem_append_right _ (List.mem_singleton.2 rfl));unfold byte at h2;rw [B27,List.length_append,List.length_singleton,Nat.mul_add,Nat.pow_add];have:2 ^ (8*1)=256:=by decide
  rw [this];omega
def bt (b:List Int) (j:Nat):Bool:=(b.getD (j / 8) 0).toNat.testBit (7-j % 8)
theorem C0r {b:List Int}:(∀ x∈b,byte x)→∀ {j:Nat},j<8*b.length→(VB b).testBit (8*b.length-1-j)=bt b j:=by
 refine A65 (Q:=fun b=>(∀ x∈b,byte x)→∀ {j:Nat},j<8*b.length→(VB b).testBit (8*b.length-1-j)=bt b j) ?_ ?_ b
 ·intro _ j hj;simp at hj
 ·intro b x ih h j hj;have h2:=h x (List.mem_append_right _ (List.mem_singleton.2 rfl));unfold byte at h2;rw [List.length_append,List.length_singleton] at hj ⊢;have e8:VB (b++[x])=2 ^ 8*VB b+x.toNat:=by rw [B27,Nat.mul_comm]
  rw [e8,Nat.testBit_two_pow_mul_add _ (lt8 (by omega))]
  by_cases hc:j<8*b.length
  ·have:=ih (fun y hy=>h y (List.mem_append_left _ hy)) hc;rw [if_neg (by omega),show 8*(b.length+1)-1-j-8=8*b.length-1-j from by omega,this];unfold bt;rw [List.getD_eq_getElem?_getD,List.getD_eq_getElem?_getD,List.getElem?_append_left (by omega)]
  ·rw [if_pos (by omega)];unfold bt;rw [List.getD_eq_getElem?_getD,List.getElem?_append_right (by omega),show j / 8-b.length=0 from by omega];simp only [List.getElem?_cons_zero,Option.getD_some];congr 1;omega
theorem C38 {b:List Int} (h:∀ x∈b,byte x) {n:Nat} (hn:n<2 ^ (8*b.length)) (hb:∀ j,j<8*b.length→bt b j=n.testBit (8*b.length-1-j)):VB b=n:=by
 refine Nat.eq_of_testBit_eq fun i => ?_
 by_cases hi:i<8*b.length
 ·have:=C0r h (j:=8*b.length-1-i) (by omega);rw [show 8*b.length-1-(8*b.length-1-i)=i from by omega] at this;rw [this,hb _ (by omega),show 8*b.length-1-(8*b.length-1-i)=i from by omega]
 ·rw [Nat.testBit_lt_two_pow (Nat.lt_of_lt_of_le (C0q h) (Nat.pow_le_pow_right (by decide) (by omega))),Nat.testBit_lt_two_pow (Nat.lt_of_lt_of_le hn (Nat.pow_le_pow_right (by decide) (by omega)))]
theorem C23 {a:Nat} {x:Int} (ha:a<18446744073709551616) (h:byte x):bitI .or .u64 (shlI .u64 (a:Int) 8) (IntKind.u64.wrap x)=(((a*256) % 18446744073709551616+x.toNat:Nat):Int):=by
 obtain⟨h1,h2⟩:=h;obtain⟨X,rfl⟩:∃ X:Nat,x=X:=⟨x.toNat,by omega⟩;have e2:(8:Int)=((8:Nat):Int):=rfl;rw [e2,B26 a 8 (by decide),A6l (by omega),show(2:Nat) ^ 8=256 from by decide];have hm:a*256 % 18446744073709551616<18446744073709551616:=Nat.mod_lt _ (by decide);rw [C0m hm (show X<18446744073709551616 by omega)];have e:a*256 % 18446744073709551616=2 ^ 8*(a % 72057594037927936):=by
  rw [show(2:Nat) ^ 8=256 from by decide];omega
 rw [e,← Nat.two_pow_add_eq_or_of_lt (lt8 (by omega)),Int.toNat_natCast]
theorem C24 {hi lo:Nat} (hh:hi<18446744073709551616) (hl:lo<18446744073709551616):bitI .or .u64 (shlI .u64 (hi:Int) 8) (shrI .u64 (lo:Int) 56)=(((hi*256) % 18446744073709551616+lo / 72057594037927936:Nat):Int):=by
 have e2:(8:Int)=((8:Nat):Int):=rfl;have e3:(56:Int)=((56:Nat):Int):=rfl;rw [e2,B26 hi 8 (by decide),e3,B8g lo 56 (by decide),show(2:Nat) ^ 8=256 from by decide,show(2:Nat) ^ 56=72057594037927936 from by decide];have hm:hi*256 % 18446744073709551616<18446744073709551616:=Nat.mod_lt _ (by decide);rw [C0m hm (show lo / 72057594037927936<18446744073709551616 by omega)];have e:hi*256 % 18446744073709551616=2 ^ 8*(hi % 72057594037927936):=by
  rw [show(2:Nat) ^ 8=256 from by decide];omega
 rw [e,← Nat.two_pow_add_eq_or_of_lt (lt8 (by omega))]
theorem B58 {b:List Int} (h:∀ x∈b,byte x) {v:Bool} (hl:8*b.length=wid v):Y9 b=some (mkA v (VB b),0):=by
 have hw:b.length=16∧v=true∨b.length=4∧v=false:=by
  cases v with
  | true=>left;have h2:8*b.length=128:=hl;exact⟨by omega,rfl⟩
  | false=>right;have h2:8*b.length=32:=hl;exact⟨by omega,rfl⟩
 refine Tot.eq ?_;unfold Y9;refine Tot.iteF (by rcases hw with hw | hw<;>simp [hw.1]) ?_;refine Tot.bindRng b.length (fun k (p:Nat×Nat)=>(((k:Nat):Int),((p.1:Nat):Int),((p.2:Nat):Int))) (fun k p=>p.1<18446744073709551616∧p.2<18446744073709551616∧p.1*18446744073709551616+p.2=VB (b.take k)) (fun x=>x=(((VB b / 18446744073709551616:Nat):Int),((VB b % 18446744073709551616:Nat):Int))) (0,0) rfl ⟨by decide,by decide,rfl⟩ (fun k p hk hp => ?_) (fun p hp => ?_) (fun x hx => ?_)
 ·obtain⟨hi,lo⟩:=p;obtain⟨h1,h2,h3⟩:=hp;simp only at h1 h2 h3;unfold S5;have hx:=h _ (List.getElem_mem hk);refine Tot.iteT (by simpa using hk) (Tot.bindIdx k rfl hk (Tot.step (hi*256 % 18446744073709551616+lo / 72057594037927936,lo*256 % 18446744073709551616+b[k].toNat) ?_ ?_))
  ·have e:w64 ((k:Int)+1)=((k+1:Nat):Int):=by rw [H1 (by omega) (by omega)];rfl
   simp only;rw [e,C23 h2 hx,C24 h1 h2]
  ·have hlt:=C0q (b:=b.take (k+1)) fun x hx=>h x (List.mem_of_mem_take hx);have hlen:(b.take (k+1)).length=k+1:=by rw [List.length_take];omega
   rw [hlen] at hlt;have hp2:2 ^ (8*(k+1))≤2 ^ 128:=Nat.pow_le_pow_right (by decide) (by omega);have e128:(2:Nat) ^ 128=340282366920938463463374607431768211456:=by decide
   rw [e128] at hp2;rw [F5 hk,B27,← h3] at hlt ⊢;unfold byte at hx;simp only;omega
 ·obtain⟨hi,lo⟩:=p;obtain⟨h1,h2,h3⟩:=hp;simp only at h1 h2 h3;unfold S5;refine Tot.iteF (by simp) (Tot.last ?_);rw [List.take_length] at h3;simp only;rw [← h3];refine Prod.ext ?_ ?_<;>simp only<;>omega
 ·subst hx;refine Tot.some ?_;unfold mkA;rcases hw with ⟨h1,h2⟩ | ⟨h1,h2⟩<;>simp [h1,h2]
theorem C25 (n:Nat):byte ((n % 256:Nat):Int):=by unfold byte;omega
theorem B9o (a:E5):A41 a=Q0 a:=rfl
theorem B68 {a:E5} (h:aV a):Tot (Q0 a) (fun b=>8*b.length=wid a.fV6∧(∀ x∈b,byte x)∧VB b=nA a):=by
 have hlt:=C3l h;obtain⟨v,hi,lo⟩:=a;have hR:=h.1;obtain⟨⟨h1,h2⟩,h3,h4⟩:=hR;simp only at h1 h2 h3 h4 hlt;obtain⟨H,rfl⟩:∃ H:Nat,hi=H:=⟨hi.toNat,by omega⟩;obtain⟨L,rfl⟩:∃ L:Nat,lo=L:=⟨lo.toNat,by omega⟩;have hN:nA ⟨v,(H:Int),(L:Int)⟩=H*18446744073709551616+L:=by unfold nA;simp
 rw [hN] at hlt ⊢;unfold Q0;refine Tot.bindT (A7l _ ▸ A7c _ h.1) fun r hr => ?_;have hr1:r=true:=hr.2 h;subst hr1;refine Tot.iteF rfl ?_;refine Tot.jnR (fun m:Int=>8*m=(wid v:Nat)) (fun j hj => ?_) (fun m hm => ?_)
 ·refine Tot.ite (fun hv=>hj _ ?_) (fun hv=>hj _ ?_)
  ·have:v=true:=hv;subst this;rfl
  ·have:v=false:=hv;subst this;rfl
 ·obtain⟨n,rfl⟩:∃ n:Nat,m=n:=⟨m.toNat,by have:=B8h v;omega⟩;have hw:=B7p v;have hw2:=B8h v;refine Tot.bindT (P':=fun b:List Int=>b.length=n∧(∀ x∈b,byte x)∧VB b=H*18446744073709551616+L) ?_ fun b hb=>Tot.some ⟨by simp only;omega,hb.2.1,hb.2.2⟩;refine Tot.loop (fun s:Int×List Int=>∃ i:Nat,i≤n∧s.1=(i:Int)-1∧s.2.length=n-i∧(∀ x∈s.2,byte x)∧VB s.2=(H*18446744073709551616+L) / 256 ^ i) (fun s=>(s.1+1).toNat) _ (fun s hs => ?_) ⟨n,Nat.le_refl _,by simp only;rw [H1 (by omega) (by omega)],by simp,fun x hx=>(by cases hx),?_⟩
  ·obtain⟨i,hi,e1,e2,e3,e4⟩:=hs;obtain⟨p,b⟩:=s;simp only at e1 e2 e3 e4;subst e1;unfold A2m;refine Tot.ite (fun hc => ?_) (fun hc => ?_)
   ·obtain⟨i,rfl⟩:∃ k,i=k+1:=⟨i-1,by simp at hc;omega⟩;have ei:((i+1:Nat):Int)-1=(i:Int):=by omega
    simp only [ei];have key:∀ w:Nat,w<18446744073709551616→(w / 2 ^ (8*(i % 8))) % 256=(H*18446744073709551616+L) / 256 ^ i % 256→Tot (chk (decide ((b++([IntKind.u8.wrap (shrI .u64 (w:Int) (IntKind.u64.wrap ((8:Int)*(IntKind.u64.wrap (Int.tmod (i:Int) (8:Int))))))]:List Int)).length≤LIM))
      (some (Sum.inr (w64 ((i:Int)-(1:Int)),(b++([IntKind.u8.wrap (shrI .u64 (w:Int) (IntKind.u64.wrap ((8:Int)*(IntKind.u64.wrap (Int.tmod (i:Int) (8:Int))))))]:List Int)))):Option (List Int⊕(Int×List Int)))) (Rnd (fun s:Int×List Int=>∃ i:Nat,i≤n∧s.1=(i:Int)-1∧s.2.length=n-i∧(∀ x∈s.2,byte x)∧VB s.2=(H*18446744073709551616+L) / 256 ^ i) (fun s=>(s.1+1).toNat) (fun b:List Int=>b.length=n∧(∀ x∈b,byte x)∧VB b=H*18446744073709551616+L) ((i:Int),b)):=by
     intro w hw1 hw3;have em:Int.tmod (i:Int) 8=((i % 8:Nat):Int):=by rw [Int.tmod_eq_emod_of_nonneg (by omega)];rfl
     have e8:(8:Int)*((i % 8:Nat):Int)=((8*(i % 8):Nat):Int):=by omega
     rw [em,A6l (by omega),e8,A6l (by omega),B8g w _ (by omega),B8f];have e256:((w / 2 ^ (8*(i % 8)):Nat):Int) % 256=((w / 2 ^ (8*(i % 8)) % 256:Nat):Int):=rfl;rw [e256,hw3];refine Tot.chk (limB (by simp;omega)) (Tot.next ⟨i,by omega,by simp only;rw [H1 (by omega) (by omega)],by simp;omega,fun x hx => ?_,?_⟩ ?_)
     ·rcases List.mem_append.1 hx with hx | hx
      ·exact e3 x hx
      ·rw [List.mem_singleton.1 hx];exact C25 _
     ·simp only;rw [B27,e4,Int.toNat_natCast,Nat.pow_succ,← Nat.div_div_eq_div_mul];exact Nat.div_add_mod' _ 256
     ·simp only;rw [H1 (by omega) (by omega)];omega
    have p256:∀ k:Nat,(256:Nat) ^ k=2 ^ (8*k):=fun k=>by rw [Nat.pow_mul]
    refine Tot.jn (Tot.ite (fun h8=>key H (by omega) ?_) (fun h8=>key L (by omega) ?_))
    ·have h8':8≤i:=by simp at h8;omega
     have:(H*18446744073709551616+L) / 256 ^ i=H / 2 ^ (8*(i % 8)):=by
      rw [p256,show 8*i=64+8*(i % 8) from by omega,Nat.pow_add,← Nat.div_div_eq_div_mul,show(2:Nat) ^ 64=18446744073709551616 from by decide];congr 1;omega
     rw [this]
    ·have h8':i<8:=by simp at h8;omega
     rw [p256,show i % 8=i from by omega];have hi8:i=0∨i=1∨i=2∨i=3∨i=4∨i=5∨i=6∨i=7:=by omega
     rcases hi8 with rfl | rfl | rfl | rfl | rfl | rfl | rfl | rfl<;>simp only [Nat.reduceMul,Nat.reducePow]<;>omega
   ·have:i=0:=by simp at hc;omega
    subst this;exact Tot.out ⟨by simp only;omega,e3,by simp only;rw [e4];simp⟩
  ·simp only;have e:(256:Nat) ^ n=2 ^ wid v:=by
    rw [show wid v=8*n from by omega,Nat.pow_mul]
   rw [e,Nat.div_eq_of_lt hlt];rfl
-- bits of bytes
theorem B9p {m:Nat} (hm:m<8):shrI .u8 128 (m:Int)=((2 ^ (7-m):Nat):Int):=by
 have e:m=0∨m=1∨m=2∨m=3∨m=4∨m=5∨m=6∨m=7:=by omega
 rcases e with rfl | rfl | rfl | rfl | rfl | rfl | rfl | rfl<;>decide
theorem C26 (x:Int):byte x→IntKind.u8.wrap x=x:=fun h=>by unfold byte at h;rw [B8f];omega
theorem B9q {x:Int} (h:byte x) {m:Nat} (hm:m<8):byte (bitI .andNot .u8 x ((2 ^ m:Nat):Int))∧∀ i,(bitI .andNot .u8 x ((2 ^ m:Nat):Int)).toNat.testBit i=(x.toNat.testBit i && !decide (i=m)):=by
 obtain⟨h1,h2⟩:=h;obtain⟨X,rfl⟩:∃ X:Nat,x=X:=⟨x.toNat,by omega⟩;have hX:X<2 ^ 8:=lt8 (by omega);have hp:2 ^ m<2 ^ 8:=Nat.pow_lt_pow_right (by decide) hm;have hle:(BitVec.ofInt 8 (X:Int) &&& ~~~(BitVec.ofInt 8 ((2 ^ m:Nat):Int))).toNat<2 ^ 8:=BitVec.isLt _;have e0:bitI .andNot .u8 (X:Int) ((2 ^ m:Nat):Int)=((BitVec.ofInt 8 (X:Int) &&& ~~~(BitVec.ofInt 8 ((2 ^ m:Nat):Int))).toNat:Int):=by
  show IntKind.u8.wrap ((BitVec.ofInt 8 (X:Int) &&& ~~~(BitVec.ofInt 8 ((2 ^ m:Nat):Int))).toNat:Int)=_;refine C26 _ ?_;unfold byte;have:(2:Nat) ^ 8=256:=by decide
  omega
 rw [e0];refine⟨?_,fun i => ?_⟩
 ·unfold byte;have:(2:Nat) ^ 8=256:=by decide
  omega
 ·rw [Int.toNat_natCast,BitVec.testBit_toNat,BitVec.getLsbD_and,BitVec.getLsbD_not,BitVec.ofInt_natCast,BitVec.ofInt_natCast,BitVec.getLsbD_ofNat,BitVec.getLsbD_ofNat,Nat.testBit_two_pow,Int.toNat_natCast]
  by_cases h8:i<8
  ·rw [decide_eq_true h8]
   by_cases hi:i=m
   ·subst hi;simp
   ·rw [decide_eq_false (show ¬ m=i from fun e=>hi e.symm),decide_eq_false hi];simp
  ·rw [decide_eq_false h8];have:X.testBit i=false:=Nat.testBit_lt_two_pow (Nat.lt_of_lt_of_le hX (Nat.pow_le_pow_right (by decide) (by omega)));rw [this];simp
theorem C39 {b:List Int} {j:Nat} (hj:j<8*b.length) {y:Int} {f:Bool→Bool} (hy:∀ i,y.toNat.testBit i=if i=7-j % 8 then f ((b.getD (j / 8) 0).toNat.testBit i) else (b.getD (j / 8) 0).toNat.testBit i):∀ i,i<8*b.length→bt (b.set (j / 8) y) i=if i=j then f (bt b i) else bt b i:=by
 intro i hi;unfold bt;rw [List.getD_eq_getElem?_getD,List.getD_eq_getElem?_getD]
 by_cases h:j / 8=i / 8
 ·rw [← h,List.getElem?_set_self (by omega),Option.getD_some,hy,List.getD_eq_getElem?_getD]
  by_cases h2:i=j
  ·subst h2;simp
  ·rw [if_neg h2,if_neg (by omega)]
 ·rw [List.getElem?_set_ne h,if_neg (by intro e;subst e;exact h rfl)]
theorem C0s {b:List Int} {k:Nat} (hk:k<b.length):b.getD k 0=b[k]:=by
 rw [List.getD_eq_getElem?_getD,List.getElem?_eq_getElem hk];rfl
theorem C0t {b:List Int} (h:∀ x∈b,byte x) {k:Nat} {y:Int} (hy:byte y):∀ x∈b.set k y,byte x:=fun x hx=>by
 rcases List.mem_or_eq_of_mem_set hx with hx | rfl
 ·exact h x hx
 ·exact hy
theorem idx8 {j:Nat} (hj:j<4611686018427387904):w64 (Int.tdiv (j:Int) 8)=((j / 8:Nat):Int):=by
 rw [Int.tdiv_eq_ediv_of_nonneg (by omega),H1 (by omega) (by omega)];rfl
theorem shift8 {j:Nat}:shrI .u8 128 (IntKind.u64.wrap (Int.tmod (j:Int) 8))=((2 ^ (7-j % 8):Nat):Int):=by
 have e:Int.tmod (j:Int) 8=((j % 8:Nat):Int):=by rw [Int.tmod_eq_emod_of_nonneg (by omega)];rfl
 rw [e,A6l (by omega),B9p (by omega)]
theorem B9r {b:List Int} (hb:∀ x∈b,byte x) (hl:b.length≤16) {n:Nat} (hn:n≤8*b.length):Tot (loop (A1j) ((n:Int),b)) (fun r=>r.length=b.length∧(∀ x∈r,byte x)∧VB r=cut (VB b) (8*b.length-n)):=by
 refine(Tot.loop (fun s:Int×List Int=>∃ i:Nat,s.1=i∧n≤i∧i≤8*b.length∧s.2.length=b.length∧(∀ x∈s.2,byte x)∧∀ j,j<8*b.length→bt s.2 j=(bt b j && !(decide (n≤j)&&decide (j<i)))) (fun s=>8*b.length-s.1.toNat) (fun r=>r.length=b.length∧(∀ x∈r,byte x)∧∀ j,j<8*b.length→bt r j=(bt b j && !decide (n≤j))) (fun s hs => ?_) ⟨n,rfl,Nat.le_refl _,hn,rfl,hb,fun j hj => ?_⟩).mono fun r hr=>⟨hr.1,hr.2.1,?_⟩
 ·obtain⟨i,e1,h1,h2,h3,h4,h5⟩:=hs;obtain⟨p,c⟩:=s;simp only at e1 h3 h4 h5;subst e1;unfold A1j;have e8:w64 ((8:Int)*(c.length:Int))=((8*c.length:Nat):Int):=by rw [H1 (by omega) (by omega)];omega
  simp only [e8];refine Tot.ite (fun hc => ?_) (fun hc => ?_)
  ·have hi:i<8*b.length:=by simp at hc;omega
   simp only [idx8 (show i<4611686018427387904 by omega),shift8];have hk:i / 8<c.length:=by omega
   have hx:=h4 _ (List.getElem_mem hk);obtain⟨g1,g2⟩:=B9q hx (show 7-i % 8<8 by omega);refine Tot.bindIdx (i / 8) rfl hk (Tot.bindIdx (i / 8) rfl hk (Tot.bindIdx (i / 8) rfl hk (Tot.bindIdx (i / 8) rfl hk ?_)));have ew:w64 ((i:Int)+1)=((i+1:Nat):Int):=by rw [H1 (by omega) (by omega)];rfl
   refine Tot.next ⟨i+1,ew,by omega,by omega,?_,C0t h4 g1,fun j hj => ?_⟩ ?_
   ·simp only [Int.toNat_natCast,List.length_set];exact h3
   ·simp only [Int.toNat_natCast];rw [C39 (f:=fun _=>false) (by omega) (fun k => ?_) j (by omega)]
    ·by_cases hji:j=i
     ·subst hji;rw [if_pos rfl,decide_eq_true h1,decide_eq_true (Nat.lt_succ_self j)];simp
     ·rw [if_neg hji,h5 j hj]
      by_cases h6:j<i
      ·rw [decide_eq_true h6,decide_eq_true (show j<i+1 by omega)]
      ·rw [decide_eq_false h6,decide_eq_false (show ¬ j<i+1 by omega)]
    ·rw [g2 k,C0s hk]
     by_cases hki:k=7-i % 8
     ·rw [if_pos hki,decide_eq_true hki];simp
     ·rw [if_neg hki,decide_eq_false hki];simp
   ·simp only [ew,Int.toNat_natCast];omega
  ·have:i=8*b.length:=by simp at hc;omega
   subst this;refine Tot.out ⟨h3,h4,fun j hj => ?_⟩;rw [h5 j hj,decide_eq_true hj];simp
 ·by_cases h6:n≤j
  ·rw [decide_eq_true h6,decide_eq_false (show ¬ j<n by omega)];simp
  ·rw [decide_eq_false h6];simp
 ·obtain⟨k1,k2,k3⟩:=hr;refine C38 k2 (by rw [k1];exact Nat.lt_of_le_of_lt (B56 _ _) (C0q hb)) fun j hj => ?_;rw [k1] at hj ⊢;rw [k3 j hj,B0d,C0r hb hj]
  by_cases h6:n≤j
  ·rw [decide_eq_true h6,decide_eq_false (show ¬ 8*b.length-n≤8*b.length-1-j by omega)];simp
  ·rw [decide_eq_false h6,decide_eq_true (show 8*b.length-n≤8*b.length-1-j by omega)];simp
def zA:E5:=E5.mk false 0 0
def zP:A2:=A2.mk zA 0
def aeq (a b:E5):Bool:=((a.fV6==b.fV6)&&((a.fHi==b.fHi)&&((a.fLo==b.fLo)&&true)))
theorem A5n {a b:E5}:aeq a b=true↔a=b:=by
 obtain⟨a1,a2,a3⟩:=a;obtain⟨b1,b2,b3⟩:=b;simp [aeq]
def peq (p q:A2):Bool:=(aeq p.fAddr q.fAddr&&((p.fLen==q.fLen)&&true))
theorem A28 {p q:A2}:peq p q=true↔p=q:=by
 obtain⟨a,n⟩:=p;obtain⟨b,m⟩:=q;simp [peq,A5n]
structure pV (p:A2):Prop where
 addr:aV p.fAddr
 len0:0≤p.fLen
 len1:p.fLen≤wid p.fAddr.fV6
 low:cut (nA p.fAddr) (wid p.fAddr.fV6-p.fLen.toNat)=nA p.fAddr
open Classical in
noncomputable def MakeF (a:E5) (n:Int):A2×Int :=
 if aV a then (if 0≤n∧n≤wid a.fV6 then (A2.mk (mkA a.fV6 (cut (nA a) (wid a.fV6-n.toNat))) n,0) else (zP,9)) else (zP,1)
theorem C0u {a:E5} (ha:aR a) (n:Int):A4x a n=some (MakeF a n):=by
 refine Tot.eq ?_;unfold A4x MakeF;refine Tot.bindT (A7l a ▸ A7c a ha) fun r hr=>Tot.ite (fun h=>Tot.some ?_) (fun h => ?_)
 ·rw [if_neg]
  ·rfl
  ·intro hv;rw [hr.2 hv] at h;cases h
 ·have hv:aV a:=hr.1 (by simpa using h);rw [if_pos hv];refine Tot.jnR (fun m:Bool=>m=true↔¬ (0≤n∧n≤wid a.fV6)) (fun j hj => ?_) (fun m hm => ?_)
  ·refine Tot.ite (fun h1=>hj _ ?_) (fun h1=>Tot.bindOf (B3h a:A5m a=_) (hj _ ?_))
   ·simp at h1;simp;omega
   ·simp at h1;simp;omega
  ·refine Tot.ite (fun h1=>Tot.some ?_) (fun h1 => ?_)
   ·rw [if_neg (hm.1 h1)];rfl
   ·have hb:0≤n∧n≤wid a.fV6:=by
     by_cases hc:0≤n∧n≤wid a.fV6
     ·exact hc
     ·rw [hm.2 hc] at h1;cases h1
    rw [if_pos hb];obtain⟨N,rfl⟩:∃ N:Nat,n=N:=⟨n.toNat,by omega⟩;have hw:=B7p a.fV6;refine Tot.bindT (B9o a ▸ B68 hv) fun b hb2 => ?_;obtain⟨k1,k2,k3⟩:=hb2;refine Tot.bindT (B9r k2 (by omega) (n:=N) (by omega)) fun r hr2 => ?_;obtain⟨g1,g2,g3⟩:=hr2;refine Tot.bindOf (B58 g2 (v:=a.fV6) (by rw [g1];exact k1)) (Tot.some ?_);rw [g3,k3,k1,Int.toNat_natCast]
open Classical in
theorem B9s {p:A2} (ha:aR p.fAddr):((MakeF p.fAddr p.fLen).2=0∧p=(MakeF p.fAddr p.fLen).1)↔pV p:=by
 unfold MakeF;constructor
 ·intro⟨h1,h2⟩
  by_cases hv:aV p.fAddr
  ·rw [if_pos hv] at h1 h2
   by_cases hn:0≤p.fLen∧p.fLen≤wid p.fAddr.fV6
   ·rw [if_pos hn] at h2;refine⟨hv,hn.1,hn.2,?_⟩;have:=congrArg (fun q=>nA (A2.fAddr q)) h2;simp only [C0n] at this;exact this.symm
   ·rw [if_neg hn] at h1;cases h1
  ·rw [if_neg hv] at h1;cases h1
 ·intro h;rw [if_pos h.addr,if_pos ⟨h.len0,h.len1⟩];refine⟨rfl,?_⟩;simp only;rw [h.low,B57 ha]
open Classical in
noncomputable def validF (p:A2):Bool:=decide (pV p)
open Classical in
theorem R8 {p:A2}:validF p=true↔pV p:=by unfold validF;rw [decide_eq_true_iff]
theorem B4j {p:A2} (ha:aR p.fAddr):A25 p=some (validF p):=by
 unfold A25;refine Q8 (C0u ha _) ?_;congr 1;have key:(((MakeF p.fAddr p.fLen).2==0)&&peq p (MakeF p.fAddr p.fLen).1)=validF p:=by
  rw [Bool.eq_iff_iff,R8,← B9s ha,Bool.and_eq_true,beq_iff_eq,A28]
 exact key
theorem B4k {p:A2} (ha:aR p.fAddr):A1y p=some (validF p):=by
 refine Tot.eq ?_;unfold A1y;refine Tot.jn (Tot.bindT (A7c _ ha) fun r hr=>Tot.ite (fun h=>Tot.bindOf (B3h _) (Tot.ite (fun h1 => ?_) (fun h1=>Tot.some ?_))) (fun h=>Tot.some ?_))
 ·simp only [Bool.and_eq_true,decide_eq_true_eq] at h;have hv:=hr.1 h.1;have h1:=of_decide_eq_true h1;obtain⟨N,hN⟩:∃ N:Nat,p.fLen=N:=⟨p.fLen.toNat,by omega⟩;rw [hN] at h1 ⊢;refine Tot.bindOf (C0p ha (by omega)) (Tot.some ?_);show aeq (mkA p.fAddr.fV6 (cut (nA p.fAddr) (wid p.fAddr.fV6-N))) p.fAddr=validF p;rw [Bool.eq_iff_iff,R8,A5n];constructor
  ·intro e;refine⟨hv,h.2,by rw [hN];exact h1,?_⟩;have:=congrArg nA e;rw [C0n] at this;rw [hN];exact this
  ·intro e;have:=e.low;rw [hN,Int.toNat_natCast] at this;rw [this,B57 ha]
 ·symm;rw [← Bool.not_eq_true];intro e;have:=(R8.1 e).len1;have:=of_decide_eq_false h1;omega
 ·symm;rw [← Bool.not_eq_true];intro e;have e:=R8.1 e;rw [hr.2 e.addr,decide_eq_true e.len0] at h;cases h
-- order
theorem A0g (x y:Int):K4 x y=some (if x<y then -1 else if y<x then 1 else 0):=by
 unfold K4 A77;simp only [Option.bind_some,bne_self_eq_false,Bool.false_eq_true,if_false]
 by_cases h:x<y
 ·rw [if_pos h,if_pos (decide_eq_true h)]
 ·rw [if_neg h,if_neg (by simpa using h)]
  by_cases h2:y<x
  ·rw [if_pos h2,if_pos (decide_eq_true h2)]
  ·rw [if_neg h2,if_neg (by simpa using h2)]
theorem B1e (x y:Int):A2c x y=some (if x<y then -1 else if y<x then 1 else 0):=A0g x y
def orL:List Int→Int
 | []=>0
 | x :: l=>if x≠0 then x else orL l
theorem B8i (l:List Int) (hl:l.length≤4611686018427387904):A8i l=some (orL l):=by
 refine Tot.eq ?_;unfold A8i;refine Tot.bindRng l.length (fun k (_:Unit)=>((k:Nat):Int)) (fun k _=>orL l=orL (l.drop k)) (fun x=>match x with | .inl y=>orL l=y | .inr _=>orL l=0) () rfl rfl (fun k b hk hb => ?_) (fun b hb => ?_) (fun x hx => ?_)
 ·unfold A78;have hw:w64 ((k:Int)+1)=((k+1:Nat):Int):=by rw [H1 (by omega) (by omega)];rfl
  rw [List.drop_eq_getElem_cons hk] at hb;refine Tot.iteT (by simpa using hk) (Tot.bindIdx k rfl hk (Tot.ite (fun h=>Tot.stop ?_) (fun h=>Tot.step () hw ?_)))
  ·rw [orL,if_pos (by simpa using h)] at hb;exact hb
  ·rw [orL,if_neg (by simpa using h)] at hb;exact hb
 ·unfold A78;refine Tot.iteF (by simp) (Tot.last ?_);rw [List.drop_length] at hb;exact hb
 ·cases x with
  | inl y=>exact Tot.some hx.symm
  | inr u=>exact Tot.some hx.symm
def aLt (a b:E5):Prop:=(a.fV6=false∧b.fV6=true)∨(a.fV6=b.fV6∧nA a<nA b)
instance (a b:E5):Decidable (aLt a b):=by unfold aLt;infer_instance
instance:DecidableEq E5:=fun a b=>decidable_of_iff _ (A5n (a:=a) (b:=b))
instance:DecidableEq A2:=fun a b=>decidable_of_iff _ (A28 (p:=a) (q:=b))
def cmpA (a b:E5):Int:=if aLt a b then -1 else if aLt b a then 1 else 0
theorem B8j {a b:E5} (ha:aR a) (hb:aR b):nA a<nA b↔a.fHi<b.fHi∨a.fHi=b.fHi∧a.fLo<b.fLo:=by
 unfold aR at ha hb;unfold nA;omega
theorem C27 {a b:E5} (ha:aR a) (hb:aR b):A8q a b=some (cmpA a b):=by
 have fam:∀ x:E5,A35 x=some (if x.fV6=true then 1 else 0):=fun x=>by unfold A35;split<;>rfl
 unfold A8q;refine Q8 (fam a) (Q8 (fam b) (Q8 (A0g _ _) (Q8 (B1e _ _) (Q8 (B1e _ _) (Q8 (B8i _ (by simp)) ?_)))));congr 1;have e1:aLt a b↔((a.fV6=false∧b.fV6=true)∨(a.fV6=b.fV6∧(a.fHi<b.fHi∨a.fHi=b.fHi∧a.fLo<b.fLo))):=by unfold aLt;rw [B8j ha hb]
 have e2:aLt b a↔((b.fV6=false∧a.fV6=true)∨(b.fV6=a.fV6∧(b.fHi<a.fHi∨b.fHi=a.fHi∧b.fLo<a.fLo))):=by unfold aLt;rw [B8j hb ha]
 unfold cmpA;simp only [orL,e1,e2];cases hva:a.fV6<;>cases hvb:b.fV6<;>simp<;>(repeat' split)<;>omega
theorem C0v {a b:E5} (ha:aR a) (hb:aR b):A61 a b=some (cmpA a b):=by
 refine Tot.eq ?_;unfold A61 cmpA;refine Tot.ite (fun h=>Tot.some ?_) (fun h => ?_)
 ·have e:a=b:=A5n.1 h;subst e;have:¬ aLt a a:=by unfold aLt;cases a.fV6<;>simp
  rw [if_neg this,if_neg this]
 ·have h:aeq a b=false:=h;have hne:a≠b:=fun e=>by rw [show aeq a b=true from A5n.2 e] at h;cases h
  refine Tot.ite (fun h1 => ?_) (fun h1 => ?_)
  ·have h1:a.fV6≠b.fV6:=by simpa using h1
   refine Tot.ite (fun h2=>Tot.some ?_) (fun h2=>Tot.some ?_)
   ·have:a.fV6=false:=by
     cases hh:a.fV6 with
     | false=>rfl
     | true=>rw [hh,h2] at h1;exact absurd rfl h1
    rw [if_pos (.inl ⟨this,h2⟩)]
   ·have:a.fV6=true:=by
     cases hh:a.fV6 with
     | true=>rfl
     | false=>rw [hh,h2] at h1;exact absurd rfl h1
    rw [if_neg (by unfold aLt;simp [this,h2]),if_pos (.inl ⟨h2,this⟩)]
  ·have h1:a.fV6=b.fV6:=by simpa using h1
   have e1:aLt a b↔nA a<nA b:=by unfold aLt;rw [h1];cases b.fV6<;>simp
   have e2:aLt b a↔nA b<nA a:=by unfold aLt;rw [h1];cases b.fV6<;>simp
   have hne2:nA a≠nA b:=fun e=>hne (C2v ha hb h1 e);refine Tot.jnR (fun m:Bool=>m=true↔nA a<nA b) (fun j hj => ?_) (fun m hm=>Tot.ite (fun h2=>Tot.some ?_) (fun h2=>Tot.some ?_))
   ·refine Tot.ite (fun h2=>hj _ ?_) (fun h2=>hj _ ?_)
    ·rw [B8j ha hb];simp at h2;simp [h2]
    ·rw [B8j ha hb];simp at h2;simp;omega
   ·rw [if_pos (e1.2 (hm.1 h2))]
   ·have h3:¬ nA a<nA b:=fun e=>by rw [hm.2 e] at h2;cases h2
    rw [if_neg (fun e=>h3 (e1.1 e)),if_pos (e2.2 (by omega))]
def pLt (p q:A2):Prop:=aLt p.fAddr q.fAddr∨(¬ aLt q.fAddr p.fAddr∧p.fLen<q.fLen)
instance (p q:A2):Decidable (pLt p q):=by unfold pLt;infer_instance
def cmpP (p q:A2):Int:=if pLt p q then -1 else if pLt q p then 1 else 0
theorem B0e {a b:E5} (h:aLt a b):¬ aLt b a:=by
 unfold aLt at *;rcases h with ⟨h1,h2⟩ | ⟨h1,h2⟩
 ·rintro(⟨h3,h4⟩ | ⟨h3,h4⟩)
  ·rw [h2] at h3;cases h3
  ·rw [h1,h2] at h3;cases h3
 ·rintro(⟨h3,h4⟩ | ⟨h3,h4⟩)
  ·rw [h1,h3] at h4;cases h4
  ·omega
theorem B8k {p q:A2} (ha:aR p.fAddr) (hb:aR q.fAddr):A4e p q=some (cmpP p q):=by
 unfold A4e;refine Q8 (C27 ha hb) (Q8 (A0g _ _) (Q8 (B8i _ (by simp)) ?_));congr 1;unfold cmpP cmpA pLt;simp only [orL]
 by_cases h1:aLt p.fAddr q.fAddr
 ·have:=B0e h1;simp [h1]
 ·by_cases h2:aLt q.fAddr p.fAddr
  ·simp [h1,h2]
  ·simp only [h1,h2,if_false,ne_eq,not_true_eq_false,false_or,not_false_eq_true,true_and]
   by_cases h3:p.fLen<q.fLen
   ·simp [h3]
   ·by_cases h4:q.fLen<p.fLen
    ·simp [h3,h4]
    ·simp [h3,h4]
theorem B3i {p q:A2} (ha:aR p.fAddr) (hb:aR q.fAddr):A30 p q=some (cmpP p q):=by
 unfold A30;refine Q8 (C0v ha hb) ?_;unfold cmpP cmpA pLt
 by_cases h1:aLt p.fAddr q.fAddr
 ·have:=B0e h1;simp [h1]
 ·by_cases h2:aLt q.fAddr p.fAddr
  ·simp [h1,h2]
  ·simp only [h1,h2,if_false,bne_self_eq_false,Bool.false_eq_true,false_or,not_false_eq_true,true_and]
   by_cases h3:p.fLen<q.fLen
   ·simp [h3]
   ·by_cases h4:q.fLen<p.fLen
    ·simp [h3,h4]
    ·simp [h3,h4]
theorem A99 {a b c:E5} (h:aLt a b) (k:aLt b c):aLt a c:=by
 unfold aLt at *;rcases h with ⟨h1,h2⟩ | ⟨h1,h2⟩<;>rcases k with ⟨k1,k2⟩ | ⟨k1,k2⟩
 ·exact .inl ⟨h1,k2⟩
 ·exact .inl ⟨h1,by rw [← k1];exact h2⟩
 ·exact .inl ⟨by rw [h1];exact k1,k2⟩
 ·exact .inr ⟨h1.trans k1,by omega⟩
theorem A9a {a b:E5} (ha:aR a) (hb:aR b) (h1:¬ aLt a b) (h2:¬ aLt b a):a=b:=by
 unfold aLt at h1 h2;have hv:a.fV6=b.fV6:=by
  cases h3:a.fV6<;>cases h4:b.fV6
  ·rfl
  ·exact(h1 (.inl ⟨h3,h4⟩)).elim
  ·exact(h2 (.inl ⟨h4,h3⟩)).elim
  ·rfl
 refine C2v ha hb hv ?_;have e1:¬ nA a<nA b:=fun e=>h1 (.inr ⟨hv,e⟩);have e2:¬ nA b<nA a:=fun e=>h2 (.inr ⟨hv.symm,e⟩);omega
theorem C28 (a:E5):¬ aLt a a:=fun h=>B0e h h
theorem B0f {p q:A2} (h:pLt p q):¬ pLt q p:=by
 unfold pLt at *;rcases h with h | ⟨h1,h2⟩
 ·rintro(k | ⟨k1,k2⟩)
  ·exact B0e h k
  ·exact k1 h
 ·rintro(k | ⟨k1,k2⟩)
  ·exact h1 k
  ·omega
theorem A7d {p q r:A2} (hp:aR p.fAddr) (hq:aR q.fAddr) (hr:aR r.fAddr) (h:pLt p q) (k:pLt q r):pLt p r:=by
 unfold pLt at *;rcases h with h | ⟨h1,h2⟩<;>rcases k with k | ⟨k1,k2⟩
 ·exact .inl (A99 h k)
 ·by_cases e:aLt q.fAddr r.fAddr
  ·exact .inl (A99 h e)
  ·rw [← A9a hq hr e k1];exact .inl h
 ·by_cases e:aLt p.fAddr q.fAddr
  ·exact .inl (A99 e k)
  ·rw [A9a hp hq e h1];exact .inl k
 ·by_cases e:aLt p.fAddr q.fAddr
  ·by_cases e2:aLt q.fAddr r.fAddr
   ·exact .inl (A99 e e2)
   ·rw [← A9a hq hr e2 k1];exact .inl e
  ·rw [A9a hp hq e h1]
   by_cases e2:aLt q.fAddr r.fAddr
   ·exact .inl e2
   ·rw [A9a hq hr e2 k1];exact .inr ⟨C28 _,by omega⟩
theorem B28 {p q:A2} (hp:aR p.fAddr) (hq:aR q.fAddr) (h1:¬ pLt p q) (h2:¬ pLt q p):p=q:=by
 unfold pLt at h1 h2;have e:=A9a hp hq (fun h=>h1 (.inl h)) (fun h=>h2 (.inl h));have hl:p.fLen=q.fLen:=by
  have a1:¬ p.fLen<q.fLen:=fun h=>h1 (.inr ⟨fun h'=>h2 (.inl h'),h⟩);have a2:¬ q.fLen<p.fLen:=fun h=>h2 (.inr ⟨fun h'=>h1 (.inl h'),h⟩);omega
 obtain⟨a,n⟩:=p;obtain⟨b,m⟩:=q;simp only at e hl;rw [e,hl]
theorem B8l (p:A2):¬ pLt p p:=fun h=>B0f h h
theorem B59 (p q:A2):cmpP p q<0↔pLt p q:=by
 unfold cmpP;split
 ·simp_all
 ·split<;>simp_all
-- the last address, halves
theorem F7 {S X:Type} (tb:S→Option (X⊕S)) (s:S):loop tb s=(tb s).bind fun | .inl x=>some x | .inr s'=>loop tb s':=by
 cases h:tb s with
 | none =>
  cases h':loop tb s with
  | none=>rfl
  | some x =>
   obtain⟨n,hn⟩:=A94 h';cases n with
   | zero=>cases hn
   | succ n=>rw [iter,h] at hn;cases hn
 | some y =>
  cases y with
  | inl x=>exact A8d h
  | inr s' =>
   show loop tb s=loop tb s';cases h':loop tb s' with
   | some x=>exact B0l h h'
   | none =>
    cases h2:loop tb s with
    | none=>rfl
    | some x =>
     obtain⟨n,hn⟩:=A94 h2;cases n with
     | zero=>cases hn
     | succ n =>
      rw [iter,h] at hn;have:loop tb s'=some x:=B53 (n:=n) hn;rw [this] at h';cases h'
def noD:C2:=C2.mk (-1) [] zA (-1) (-1) (-1) [] [] []
theorem B69:A0k=some noD:=rfl
theorem B0u:A23=some noD:=rfl
theorem B6a:A05 []=some true:=by
 unfold A05;rw [F7];simp [U5]
theorem C0w {x:E5} (h:aV x):X7 x=some true:=by
 obtain⟨b,e,hb⟩:=A7c x h.1;rw [e,hb.2 h]
theorem B7q:N7 []=some true:=by
 unfold N7 V8;rw [F7];simp [K8]
theorem B7r:H5 []=some true:=by
 unfold H5 S1;rw [F7];simp [J7]
theorem B7s:P6 []=some true:=by
 unfold P6;rw [F7];simp [N1]
theorem B6b:J4 noD=some true:=by
 have hz:aV zA:=⟨⟨by decide,by decide⟩,.inr (by decide)⟩;unfold J4 noD;simp [jn,G8,B6a,C0w hz,B7q,B7r,B7s]
open Classical in
noncomputable def aD (a b:C2):Bool:=decide (a=b)
theorem A91 {a b:C2}:aD a b=true↔a=b:=by unfold aD;simp
theorem B5a (a:C2):aD a a=true:=A91.2 rfl
theorem C3m {a b:C2} (h:a≠b):aD a b=false:=by
 rw [Bool.eq_false_iff];exact fun e=>h (A91.1 e)
theorem scan {B:Int→Option ((Unit⊕Unit)⊕Int)} {n:Nat} (Q:Nat→Prop) (hn:n≤1000000) (h1:∀ k,k<n→Tot (B (k:Int)) (fun x=>(x = .inl (.inl ())∧¬ Q k)∨(x = .inr (w64 ((k:Int)+1))∧Q k))) (h2:B (n:Int)=some (.inl (.inr ()))) :
  Tot (loop B (0:Int)) (fun x=>(x = .inl ()∧¬ ∀ k,k<n→Q k)∨(x = .inr ()∧∀ k,k<n→Q k)):=by
 refine Tot.rng n (fun k (_:Unit)=>(k:Int)) (fun k _=>∀ j,j<k→Q j) _ () rfl (fun j hj=>absurd hj (by omega)) (fun k _ hk hI => ?_) (fun _ hI => ?_)
 ·refine(h1 k hk).mono fun x hx => ?_;rcases hx with ⟨rfl,hq⟩ | ⟨rfl,hq⟩
  ·exact .inl ⟨rfl,fun h=>hq (h k hk)⟩
  ·refine⟨(),C0 hk (by omega),fun j hj => ?_⟩
   by_cases e:j=k
   ·rw [e];exact hq
   ·exact hI j (by omega)
 ·exact⟨_,h2,.inr ⟨rfl,hI⟩⟩
theorem scanT {B:Int→Option ((Unit⊕Unit)⊕Int)} {n:Nat} (hn:n≤1000000) (h1:∀ k,k<n→Tot (B (k:Int)) (fun x=>x = .inl (.inl ())∨x = .inr (w64 ((k:Int)+1)))) (h2:B (n:Int)=some (.inl (.inr ()))):Tot (loop B (0:Int)) (fun _=>True):=by
 refine Tot.rng n (fun k (_:Unit)=>(k:Int)) (fun _ _=>True) _ () rfl trivial (fun k _ hk _ => ?_) (fun _ _=>⟨_,h2,trivial⟩);refine(h1 k hk).mono fun x hx => ?_;rcases hx with rfl | rfl
 ·exact trivial
 ·exact⟨(),C0 hk (by omega),trivial⟩
theorem scanE {α:Type} {B:Int→Option ((Unit⊕Unit)⊕Int)} {l m:List α} (hl:l.length=m.length) (hn:l.length≤1000000)
  (h1:∀ (k:Nat) (hk:k<l.length) (hk':k<m.length),Tot (B (k:Int)) (fun x=>(x = .inl (.inl ())∧l[k]≠m[k])∨(x = .inr (w64 ((k:Int)+1))∧l[k]=m[k]))) (h2:B (l.length:Int)=some (.inl (.inr ()))) :
  Tot (loop B (0:Int)) (fun x=>(x = .inl ()∧l≠m)∨(x = .inr ()∧l=m)):=by
 have e:(∀ k,k<l.length→l[k]? = m[k]?)↔l=m:=by
  constructor
  ·intro h;refine List.ext_getElem? fun k => ?_
   by_cases hk:k<l.length
   ·exact h k hk
   ·rw [List.getElem?_eq_none (by omega),List.getElem?_eq_none (by omega)]
  ·rintro rfl k _;rfl
 have:=scan (B:=B) (n:=l.length) (fun k=>l[k]? = m[k]?) hn (fun k hk=>by
  have hk':k<m.length:=by omega
  refine(h1 k hk hk').mono fun x hx => ?_;rw [List.getElem?_eq_getElem hk,List.getElem?_eq_getElem hk'];simpa using hx) h2
 rw [e] at this;exact this
structure Sm (a:C2):Prop where
 next:aR a.fNext
 path:a.fPath.length≤2000
 seg:∀ s∈a.fPath,s.fASNs.length≤2000
 com:a.fCommunities.length≤2000
 lar:a.fLarge.length≤2000
 oth:a.fOther.length≤2000
 dat:∀ x∈a.fOther,x.fData.length≤2000∧∀ y∈x.fData,byte y
def nAs:List B4→Nat
 | []=>0
 | s :: p=>s.fASNs.length+nAs p
theorem A7m:∀ p q:List B4,nAs (p++q)=nAs p+nAs q
 | [],q=>by simp [nAs]
 | s :: p,q=>by simp only [List.cons_append,nAs,A7m p q];omega
theorem C0x:∀ {p:List B4},(∀ s∈p,s.fASNs.length≤2000)→nAs p≤2000*p.length
 | [],_=>by simp [nAs]
 | s :: p,h=>by
  have h1:=h s (List.mem_cons_self ..);have h2:=C0x fun t ht=>h t (List.mem_cons_of_mem _ ht);simp only [nAs,List.length_cons];omega
structure aOK (a:C2):Prop where
 sm:Sm a
 next:aV a.fNext
 org:-1≤a.fOrigin∧a.fOrigin≤2
 med:-1≤a.fMED
 pref:-1≤a.fPref
 otc:a.fOTC = -1∨1≤a.fOTC
 pth:a.fPath.length≤64∧nAs a.fPath≤64
 com:a.fCommunities.length≤64
 lar:a.fLarge.length≤64
 oth:a.fOther.length≤8
 one:∀ x∈a.fOther,(1≤x.fType∧x.fType≤255)∧x.fFlags=224∧x.fData.length≤255
-- paths
theorem nb (x:Int):(!(decide (1≤x)&&decide (x≤4294967295)))=(decide (x<1) || decide (4294967295<x)):=by
 rw [Bool.not_and];congr 1<;>rw [← decide_not]<;>exact decide_eq_decide.2 (by omega)
theorem pathL1:A0m=N8:=by
 funext s k;unfold A0m N8;simp only [A0w,Option.bind_some,nb]
theorem C29 (p:List B4):A05 p=A0d p:=by
 have:U5 p=R6 p:=by
  funext s;unfold U5 R6;rw [pathL1]
  try rfl
 unfold A05 A0d;rw [this]
 try rfl
theorem C2a {s:B4} (h:s.fASNs.length≤2000):Tot (loop (N8 s) (0:Int)) (fun _=>True):=by
 refine scanT (n:=s.fASNs.length) (by omega) (fun k hk => ?_) (by unfold N8;simp);unfold N8;refine Tot.iteT (by simpa using hk) ?_;refine Tot.bindIdx k rfl hk ?_;refine Tot.jnR (fun _=>True) (fun j hj => ?_) (fun m _=>Tot.ite (fun _=>Tot.some (.inl rfl)) (fun _=>Tot.some (.inr rfl)));refine Tot.ite (fun _=>hj _ trivial) fun _=>Tot.ite (fun e => ?_) (fun _=>hj _ trivial);rw [Bool.and_eq_true,decide_eq_true_eq] at e;obtain⟨i,rfl⟩:∃ i,k=i+1:=⟨k-1,by omega⟩;exact Tot.bindIdx i (S8 (n:=s.fASNs.length) (by omega) (by omega)) (by omega) (hj _ trivial)
theorem B4l {p:List B4} (hl:p.length≤2000) (hs:∀ s∈p,s.fASNs.length≤2000):Tot (A0d p) (fun b=>b=true→(p.length≤64∧nAs p≤64)∧∀ s∈p,s.fASNs≠[]):=by
 unfold A0d;refine Tot.bindRng p.length (fun k (_:Unit)=>((nAs (p.take k):Int),(k:Int))) (fun k _=>k≤nAs (p.take k)∧∀ s∈p.take k,s.fASNs≠[]) (fun x=>x = .inl ()∨(x = .inr (nAs p:Int)∧p.length≤nAs p∧∀ s∈p,s.fASNs≠[])) () rfl (by simp) (fun k b hk hI => ?_) (fun b hI => ?_) (fun x hx => ?_)
 ·unfold R6;refine Tot.iteT (by simpa using hk) ?_;refine Tot.bindIdx k rfl hk ?_;refine Tot.jnR (fun m=>m=false→p[k].fASNs≠[]) (fun j hj => ?_) (fun m hm => ?_)
  ·refine Tot.ite (fun _=>hj _ (fun e=>by cases e)) (fun e => ?_);have he:p[k].fASNs≠[]:=by intro h;rw [h] at e;simp at e
   refine Tot.ite (fun e2 => ?_) (fun _=>hj _ fun _=>he);rw [Bool.and_eq_true,decide_eq_true_eq] at e2;have:0<k:=by have:=e2.1;simp only at this;omega
   obtain⟨i,rfl⟩:∃ i,k=i+1:=⟨k-1,by omega⟩;exact Tot.bindIdx i (S8 (n:=p.length) (by omega) (by omega)) (by omega) (hj _ fun _=>he)
  ·refine Tot.ite (fun _=>Tot.stop (.inl rfl)) (fun e => ?_);refine Tot.bindT (C2a (hs _ (List.getElem_mem hk))) fun x _ => ?_;cases x with
   | inl _=>exact Tot.stop (.inl rfl)
   | inr _ =>
    have hsn:nAs (p.take (k+1))=nAs (p.take k)+p[k].fASNs.length:=by rw [F5 hk,A7m];simp [nAs]
    have hle:=C0x (p:=p.take (k+1)) fun s h=>hs s (List.mem_of_mem_take h);have hlt:(p.take (k+1)).length≤2000:=by rw [List.length_take];omega
    refine Tot.step () (Prod.ext ?_ (C0 hk (by omega))) ⟨?_,fun s h => ?_⟩
    ·simp only;rw [hsn,H1 (by omega) (by omega)];omega
    ·have:=List.length_pos_iff.2 (hm e);have:=hI.1;omega
    ·rw [F5 hk] at h;rcases List.mem_append.1 h with h | h
     ·exact hI.2 s h
     ·rw [List.mem_singleton.1 h];exact hm e
 ·unfold R6;refine Tot.iteF (by simp) ?_;rw [List.take_length] at hI;exact Tot.last (.inr ⟨by simp,hI⟩)
 ·rcases hx with rfl | ⟨rfl,h1,h2⟩
  ·exact Tot.some (fun e=>by cases e)
  ·refine Tot.some fun e => ?_;have:=of_decide_eq_true e;exact⟨⟨by omega,by omega⟩,h2⟩
theorem C0y:A3n noD=some true:=by
 unfold A3n;simp [B69,noD,H1,zA]
theorem C0z:A3a noD noD=some true:=by
 unfold A3a;have e1:A4y [] []=some true:=by unfold A4y;rw [F7];simp [A42]
 have e2:A4z [] []=some true:=by unfold A4z;rw [F7];simp [A44]
 have e3:Z2 [] []=some true:=by unfold Z2;rw [F7];simp [Y3]
 have e4:A0q [] []=some true:=by unfold A0q;rw [F7];simp [A0c]
 simp [noD,jn,e1,e2,e3,e4]
-- communities
theorem C10 (a b c:Int):decide (c≤minI a b)=(decide (c≤a)&&decide (c≤b)):=by
 rw [← Bool.decide_and];exact decide_eq_decide.2 (by unfold minI;split<;>omega)
theorem C11 (a b c:Int):decide (maxI a b≤c)=(decide (a≤c)&&decide (b≤c)):=by
 rw [← Bool.decide_and];exact decide_eq_decide.2 (by unfold maxI;split<;>omega)
theorem min2 (a b:Int):A2s [a,b]=some (minI a b):=by
 unfold A2s;simp [idx];rw [F7];simp [S9,idx,H1];rw [F7];simp [S9]
theorem max2 (a b:Int):A2t [a,b]=some (maxI a b):=by
 unfold A2t;simp [idx];rw [F7];simp [T0,idx,H1];rw [F7];simp [T0]
theorem min3 (a b c:Int):A2s [a,b,c]=some (minI (minI a b) c):=by
 unfold A2s;simp [idx];rw [F7];simp [S9,idx,H1];rw [F7];simp [S9,idx,H1];rw [F7];simp [S9]
theorem max3 (a b c:Int):A2t [a,b,c]=some (maxI (maxI a b) c):=by
 unfold A2t;simp [idx];rw [F7];simp [T0,idx,H1];rw [F7];simp [T0,idx,H1];rw [F7];simp [T0]
theorem C2b (c:B5):A1b c=A26 c:=by
 unfold A1b T3 A26;simp only [jn,min2,max2,Option.bind_some,C10,C11];cases decide (0≤c.fA)<;>cases decide (0≤c.fB)<;>cases decide (c.fA≤65535)<;>cases decide (c.fB≤65535)<;>rfl
theorem C12 (c:E7):S0 c=R2 c:=by
 unfold S0 T3 R2;simp only [jn,min3,max3,Option.bind_some,C10,C11];cases decide (0≤c.fA)<;>cases decide (0≤c.fB)<;>cases decide (0≤c.fC)<;>cases decide (c.fA≤4294967295)<;>cases decide (c.fB≤4294967295)<;>cases decide (c.fC≤4294967295)<;>rfl
def s3 (x y:Int):Int:=if x<y then -1 else if y<x then 1 else 0
theorem C2c (x y:B5):V7 x y=some (orL [s3 x.fA y.fA,s3 x.fB y.fB]):=by
 unfold V7;simp only [A0g,Option.bind_some,s3];rw [B8i _ (by simp)];rfl
theorem C2d (x y:E7):L7 x y=some (orL [s3 x.fA y.fA,s3 x.fB y.fB,s3 x.fC y.fC]):=by
 unfold L7;simp only [A0g,Option.bind_some,s3];rw [B8i _ (by simp)];rfl
theorem B6c (x y:B5):A50 x y=some (!decide (0≤orL [s3 x.fA y.fA,s3 x.fB y.fB])):=by
 unfold A50;simp only [jn,orL,s3];rcases Int.lt_trichotomy x.fA y.fA with h | h | h
 ·simp [h]
 ·rcases Int.lt_trichotomy x.fB y.fB with h2 | h2 | h2
  ·simp [h,h2]
  ·simp [h,h2]
  ·simp [h,h2,show ¬ x.fB<y.fB by omega]
 ·simp [h,show ¬ x.fA<y.fA by omega,show ¬ x.fA=y.fA by omega]
theorem B6d (x y:E7):Z3 x y=some (!decide (0≤orL [s3 x.fA y.fA,s3 x.fB y.fB,s3 x.fC y.fC])):=by
 unfold Z3;simp only [jn,orL,s3];rcases Int.lt_trichotomy x.fA y.fA with h | h | h
 ·simp [h]
 ·rcases Int.lt_trichotomy x.fB y.fB with h2 | h2 | h2
  ·simp [h,h2]
  ·rcases Int.lt_trichotomy x.fC y.fC with h3 | h3 | h3
   ·simp [h,h2,h3]
   ·simp [h,h2,h3]
   ·simp [h,h2,h3,show ¬ x.fC<y.fC by omega]
  ·simp [h,h2,show ¬ x.fB<y.fB by omega,show ¬ x.fB=y.fB by omega]
 ·simp [h,show ¬ x.fA<y.fA by omega,show ¬ x.fA=y.fA by omega]
theorem C3a (l:List B5):N7 l=S7 l:=by
 have:K8 l=N9 l:=by
  funext s;unfold K8 N9;simp only [C2b,C2c,B6c,Option.bind_some,Bool.not_not]
 unfold N7 V8 S7;rw [this];cases loop (N9 l) 0 with
 | none=>rfl
 | some x=>cases x<;>rfl
theorem C3b (l:List E7):H5 l=I6 l:=by
 have:J7 l=H6 l:=by
  funext s;unfold J7 H6;simp only [C12,C2d,B6d,Option.bind_some,Bool.not_not]
 unfold H5 S1 I6;rw [this];cases loop (H6 l) 0 with
 | none=>rfl
 | some x=>cases x<;>rfl
theorem B6e {l:List B5} (hl:l.length≤2000):Tot (S7 l) (fun b=>b=true→l.length≤64):=by
 unfold S7;refine Tot.bindT (scanT (n:=l.length) (by omega) (fun k hk => ?_) (by unfold N9;simp)) fun x _ => ?_
 ·unfold N9;refine Tot.iteT (by simpa using hk) ?_;refine Tot.bindIdx k rfl hk ?_;refine Tot.jnR (fun _=>True) (fun j hj => ?_) (fun m _=>Tot.ite (fun _=>Tot.some (.inl rfl)) (fun _=>Tot.some (.inr rfl)));refine Tot.bindOf (show A26 l[k]=some _ from rfl) ?_;refine Tot.ite (fun _=>hj _ trivial) fun _=>Tot.ite (fun e => ?_) (fun _=>hj _ trivial);rw [decide_eq_true_eq] at e;obtain⟨i,rfl⟩:∃ i,k=i+1:=⟨k-1,by omega⟩;exact Tot.bindIdx i (S8 (n:=l.length) (by omega) (by omega)) (by omega) (Tot.bindOf (B6c _ _) (hj _ trivial))
 ·cases x with
  | inl _=>exact Tot.some (fun e=>by cases e)
  | inr _=>exact Tot.some (fun e=>by have:=of_decide_eq_true e;omega)
theorem B6f {l:List E7} (hl:l.length≤2000):Tot (I6 l) (fun b=>b=true→l.length≤64):=by
 unfold I6;refine Tot.bindT (scanT (n:=l.length) (by omega) (fun k hk => ?_) (by unfold H6;simp)) fun x _ => ?_
 ·unfold H6;refine Tot.iteT (by simpa using hk) ?_;refine Tot.bindIdx k rfl hk ?_;refine Tot.jnR (fun _=>True) (fun j hj => ?_) (fun m _=>Tot.ite (fun _=>Tot.some (.inl rfl)) (fun _=>Tot.some (.inr rfl)));refine Tot.bindOf (show R2 l[k]=some _ from rfl) ?_;refine Tot.ite (fun _=>hj _ trivial) fun _=>Tot.ite (fun e => ?_) (fun _=>hj _ trivial);rw [decide_eq_true_eq] at e;obtain⟨i,rfl⟩:∃ i,k=i+1:=⟨k-1,by omega⟩;exact Tot.bindIdx i (S8 (n:=l.length) (by omega) (by omega)) (by omega) (Tot.bindOf (B6d _ _) (hj _ trivial))
 ·cases x with
  | inl _=>exact Tot.some (fun e=>by cases e)
  | inr _=>exact Tot.some (fun e=>by have:=of_decide_eq_true e;omega)
-- attributes that are not known
theorem B3j (t:Int):X4 t=some (ilk gv0 t):=by
 unfold X4;simp only [jn]
 by_cases h1:t=1
 ·subst h1;rfl
 by_cases h2:t=2
 ·subst h2;rfl
 by_cases h3:t=3
 ·subst h3;rfl
 by_cases h4:t=4
 ·subst h4;rfl
 by_cases h5:t=5
 ·subst h5;rfl
 by_cases h6:t=8
 ·subst h6;rfl
 by_cases h7:t=32
 ·subst h7;rfl
 by_cases h8:t=35
 ·subst h8;rfl
 have n:∀ {k:Int},¬ t=k→(t==k)=false:=fun h=>by simpa using h
 simp only [ilk,gv0,List.find?,n h1,n h2,n h3,n h4,n h5,n h6,n h7,n h8];rfl
theorem C3c (t:Int):V9 t=Q6 t:=by
 unfold V9 Q6;rw [B3j];rfl
theorem C13 (a:C2):N1 a.fOther=O4 a:=by
 funext s;unfold N1 O4;simp only [C3c];refine ite_congr rfl (fun _ => ?_) (fun _=>rfl);refine congrArg _ (funext fun x => ?_);have hu:Q6 x.fType=some (((ilk gv0 x.fType==0)&&(x.fType != 14))&&(x.fType != 15)):=by unfold Q6;rw [B3j];rfl
 rw [hu];have h1:decide (x.fType<1) = !decide (1≤x.fType):=by rw [← decide_not];exact decide_eq_decide.2 (by omega)
 have h2:decide (255<x.fType) = !decide (x.fType≤255):=by rw [← decide_not];exact decide_eq_decide.2 (by omega)
 simp only [jn,G8,Option.bind_some,h1,h2];cases (((ilk gv0 x.fType==0)&&(x.fType != 14))&&(x.fType != 15))<;>cases decide (1≤x.fType)<;>cases decide (x.fType≤255)<;>simp
theorem B6g {a:C2} (hl:a.fOther.length≤2000):Tot (loop (O4 a) (0:Int)) (fun x=>x = .inl ()∨(x = .inr ()∧∀ x∈a.fOther,(1≤x.fType∧x.fType≤255)∧x.fFlags=224∧x.fData.length≤255)):=by
 refine Tot.rng a.fOther.length (fun k (_:Unit)=>(k:Int)) (fun k _=>∀ x∈a.fOther.take k,(1≤x.fType∧x.fType≤255)∧x.fFlags=224∧x.fData.length≤255) _ () rfl (by simp) (fun k _ hk hI => ?_) (fun _ hI => ?_)
 ·unfold O4;refine Tot.iteT (by simpa using hk) ?_;refine Tot.bindIdx k rfl hk ?_;refine Tot.jnR (fun m=>m=false→(1≤a.fOther[k].fType∧a.fOther[k].fType≤255)∧a.fOther[k].fFlags=224∧a.fOther[k].fData.length≤255) (fun j hj => ?_) (fun m hm => ?_)
  ·refine Tot.ite (fun _=>hj _ (fun e=>by cases e)) fun e => ?_;rw [Bool.or_eq_false_iff,decide_eq_false_iff_not,decide_eq_false_iff_not] at e;unfold Q6;rw [B3j];refine Tot.ite (fun _=>hj _ (fun e=>by cases e)) fun e2 => ?_;rw [Bool.or_eq_false_iff,Bool.or_eq_false_iff,decide_eq_false_iff_not] at e2;have good:(1≤a.fOther[k].fType∧a.fOther[k].fType≤255)∧a.fOther[k].fFlags=224∧a.fOther[k].fData.length≤255:=⟨by omega,by simpa using e2.1.2,by omega⟩;refine Tot.ite (fun e => ?_) (fun _=>hj _ fun _=>good);rw [decide_eq_true_eq] at e;obtain⟨i,rfl⟩:∃ i,k=i+1:=⟨k-1,by omega⟩;exact Tot.bindIdx i (S8 (n:=a.fOther.length) (by omega) (by omega)) (by omega) (hj _ fun _=>good)
  ·refine Tot.ite (fun _=>Tot.stop (.inl rfl)) (fun e=>Tot.step () (C0 hk (by omega)) fun x h => ?_);rw [F5 hk] at h;rcases List.mem_append.1 h with h | h
   ·exact hI x h
   ·rw [List.mem_singleton.1 h];exact hm e
 ·unfold O4;refine Tot.iteF (by simp) ?_;rw [List.take_length] at hI;exact Tot.last (.inr ⟨rfl,hI⟩)
-- attributes
theorem B6h {x:E5} (h:aR x):∃ b,X7 x=some b∧(b=true→aV x):=by
 obtain⟨b,e,hb⟩:=A7c x h;exact⟨b,e,hb.1⟩
theorem B6i {a:C2} (h:Sm a):Tot (M0 a) (fun b=>b=true→aOK a∧∀ s∈a.fPath,s.fASNs≠[]):=by
 unfold M0;refine Tot.bindT (B6g h.oth) fun x hx => ?_;rcases hx with rfl | ⟨rfl,ho⟩
 ·exact Tot.some (fun e=>by cases e)
 refine Tot.jnR (fun m=>m=true→aOK a∧∀ s∈a.fPath,s.fASNs≠[]) (fun j hj => ?_) (fun m hm=>Tot.some hm);have no:=hj false (fun e=>by cases e);refine Tot.ite (fun e1 => ?_) (fun _=>no);rw [Bool.and_eq_true,decide_eq_true_eq,decide_eq_true_eq] at e1;refine Tot.bindT (B4l h.path h.seg) fun bp hp => ?_;refine Tot.ite (fun e2 => ?_) (fun _=>no);obtain⟨ba,ea,ha⟩:=B6h h.next;refine Tot.bindOf (show X3 a.fNext=some ba by rw [A7l];exact ea) ?_;refine Tot.ite (fun e3 => ?_) (fun _=>no);simp only [Bool.and_eq_true,decide_eq_true_eq] at e3;have com:∀ e4:a.fOTC = -1∨1≤a.fOTC,Tot ((S7 a.fCommunities).bind fun r72=>if r72=true then (I6 a.fLarge).bind fun r74=>j (r74&&decide ((a.fOther.length:Int)≤8)) else j false) (fun b=>b=true→aOK a∧∀ s∈a.fPath,s.fASNs≠[]):=fun e4=>by
  refine Tot.bindT (B6e h.com) fun bc hc => ?_;refine Tot.ite (fun e5 => ?_) (fun _=>no);refine Tot.bindT (B6f h.lar) fun bl hl => ?_;refine hj _ fun e6 => ?_;rw [Bool.and_eq_true,decide_eq_true_eq] at e6;exact⟨⟨h,ha e3.1.1.1.1,e1,e3.1.1.1.2,e3.1.2,e4,(hp e2).1,hc e5,hl e6.1,by omega,ho⟩,(hp e2).2⟩
 refine Tot.ite (fun e4=>com (.inl (by simpa using e4))) (fun _ => ?_);refine Tot.ite (fun e4=>com (.inr ?_)) (fun _=>no);rw [Bool.and_eq_true,decide_eq_true_eq] at e4;exact e4.1
theorem C3d {a:C2} (h:Sm a):J4 a=M0 a:=by
 unfold J4 M0 P6;rw [C13,C29,C3a,C3b,A7l];obtain⟨x,ex,_⟩:=B6g h.oth;obtain⟨bp,ep,_⟩:=B4l h.path h.seg;obtain⟨ba,ea,_⟩:=B6h h.next;obtain⟨bc,ec,_⟩:=B6e h.com;obtain⟨bl,el,_⟩:=B6f h.lar;simp only [jn,ex,ep,ea,ec,el,G8,A0w,Option.bind_some];cases x<;>cases bp<;>cases ba<;>cases bc<;>cases bl<;>cases ((decide (-1≤a.fOrigin))&&decide (a.fOrigin≤2))<;>cases decide (-1≤a.fMED)<;>cases decide (a.fMED≤4294967295)<;>cases decide (-1≤a.fPref)<;>cases decide (a.fPref≤4294967295)<;>cases (a.fOTC == -1)<;>simp
noncomputable def attB (a:C2):Bool:=(M0 a).getD false
theorem A9b {a:C2} (h:Sm a):M0 a=some (attB a):=by
 obtain⟨b,e,_⟩:=B6i h;unfold attB;rw [e];rfl
theorem B6j {a:C2} (h:Sm a):J4 a=some (attB a):=by rw [C3d h,A9b h]
theorem B29 {a:C2} (h:Sm a) (e:attB a=true):aOK a∧∀ s∈a.fPath,s.fASNs≠[]:=(B6i h).get (A9b h) e
-- copies
theorem B6k {a:C2} (h:Sm a):A34 a=some a:=by
 refine Tot.eq ?_;unfold A34;refine Tot.bindRng a.fPath.length (fun k (_:Unit)=>((k:Int),a.fPath.take k)) (fun _ _=>True) (fun x=>x=a.fPath) () rfl trivial (fun k _ hk _ => ?_) (fun _ _ => ?_) (fun x hx => ?_)
 ·unfold A19;refine Tot.iteT (by simpa using hk) ?_;refine Tot.bindIdx k rfl hk ?_;have hs:=h.seg _ (List.getElem_mem hk);have hp:=h.path;refine Tot.bindOf (show A5v a.fPath[k].fASNs=some a.fPath[k].fASNs by unfold A5v;rw [limB (by omega)];rfl) ?_;refine Tot.chk (limB (by simp;omega)) ?_;exact Tot.step () (by rw [F5 hk];exact Prod.ext (C0 hk (by omega)) rfl) trivial
 ·unfold A19;refine Tot.iteF (by simp) ?_;exact Tot.last (List.take_of_length_le (Nat.le_refl _))
 subst hx;refine Tot.bindRng a.fOther.length (fun k (_:Unit)=>((k:Int),a.fOther.take k)) (fun _ _=>True) (fun x=>x=a.fOther) () rfl trivial (fun k _ hk _ => ?_) (fun _ _ => ?_) (fun x hx => ?_)
 ·unfold A1a;refine Tot.iteT (by simpa using hk) ?_;refine Tot.bindIdx k rfl hk ?_;have hs:=(h.dat _ (List.getElem_mem hk)).1;have hp:=h.oth;refine Tot.bindOf (show A3j a.fOther[k].fData=some a.fOther[k].fData by unfold A3j;rw [limB (by omega)];rfl) ?_;refine Tot.chk (limB (by simp;omega)) ?_;exact Tot.step () (by rw [F5 hk];exact Prod.ext (C0 hk (by omega)) rfl) trivial
 ·unfold A1a;refine Tot.iteF (by simp) ?_;exact Tot.last (List.take_of_length_le (Nat.le_refl _))
 subst hx;have h1:=h.com;have h2:=h.lar;refine Tot.bindOf (show A3k a.fCommunities=some a.fCommunities by unfold A3k;rw [limB (by omega)];rfl) ?_;refine Tot.bindOf (show A3l a.fLarge=some a.fLarge by unfold A3l;rw [limB (by omega)];rfl) ?_;exact Tot.some rfl
theorem B5b {a:C2} (h:Sm a):L2 a=some a:=by
 refine Tot.eq ?_;unfold L2;refine Tot.bindRng a.fPath.length (fun k (_:Unit)=>((k:Int),a.fPath.take k)) (fun _ _=>True) (fun x=>x=a.fPath) () rfl trivial (fun k _ hk _ => ?_) (fun _ _ => ?_) (fun x hx => ?_)
 ·unfold S3;refine Tot.iteT (by simpa using hk) ?_;refine Tot.bindIdx k rfl hk ?_;have hs:=h.seg _ (List.getElem_mem hk);have hp:=h.path;refine Tot.chk (limB (by omega)) ?_;refine Tot.chk (limB (by simp;omega)) ?_;exact Tot.step () (by rw [F5 hk];exact Prod.ext (C0 hk (by omega)) rfl) trivial
 ·unfold S3;refine Tot.iteF (by simp) ?_;exact Tot.last (List.take_of_length_le (Nat.le_refl _))
 subst hx;have h1:=h.com;have h2:=h.lar;refine Tot.chk (limB (by omega)) (Tot.chk (limB (by omega)) ?_);refine Tot.bindRng a.fOther.length (fun k (_:Unit)=>((k:Int),a.fOther.take k)) (fun _ _=>True) (fun x=>x=a.fOther) () rfl trivial (fun k _ hk _ => ?_) (fun _ _ => ?_) (fun x hx => ?_)
 ·unfold S4;refine Tot.iteT (by simpa using hk) ?_;refine Tot.bindIdx k rfl hk ?_;have hs:=(h.dat _ (List.getElem_mem hk)).1;have hp:=h.oth;refine Tot.chk (limB (by omega)) ?_;refine Tot.chk (limB (by simp;omega)) ?_;exact Tot.step () (by rw [F5 hk];exact Prod.ext (C0 hk (by omega)) rfl) trivial
 ·unfold S4;refine Tot.iteF (by simp) ?_;exact Tot.last (List.take_of_length_le (Nat.le_refl _))
 subst hx;exact Tot.some rfl
-- comparisons
theorem eqLoop {α:Type} {B:Int→Option ((Unit⊕Unit)⊕Int)} {l m:List α} (hn:l.length≤1000000)
  (h1:∀ (k:Nat) (hk:k<l.length) (hk':k<m.length),Tot (B (k:Int)) (fun x=>(x = .inl (.inl ())∧l[k]≠m[k])∨(x = .inr (w64 ((k:Int)+1))∧l[k]=m[k]))) (h2:B (l.length:Int)=some (.inl (.inr ()))) :
  Tot (if ((l.length:Int) != (m.length:Int))=true then some false else (loop B 0).bind fun x=>match x with | (.inl _)=>some false | (.inr _)=>some true) (fun b=>b=true↔l=m):=by
 refine Tot.ite (fun e=>Tot.some ⟨(fun e=>by cases e),fun h => ?_⟩) (fun e => ?_)
 ·rw [h] at e;simp at e
 ·have hl:l.length=m.length:=Int.ofNat_inj.1 (by simpa using e);refine Tot.bindT (scanE hl hn h1 h2) fun x hx => ?_;rcases hx with ⟨rfl,h⟩ | ⟨rfl,h⟩
  ·exact Tot.some ⟨(fun e=>by cases e),fun e=>absurd e h⟩
  ·exact Tot.some ⟨fun _=>h,fun _=>rfl⟩
theorem stepTF {c:Bool} {P:Prop} {k:Int} (h:c=true↔¬ P):Tot (if c=true then some (.inl (.inl ())) else some (.inr k):Option ((Unit⊕Unit)⊕Int)) (fun x=>(x = .inl (.inl ())∧¬ P)∨(x = .inr k∧P)) :=
 Tot.ite (fun e=>Tot.some (.inl ⟨rfl,h.1 e⟩)) (fun e=>Tot.some (.inr ⟨rfl,Classical.byContradiction fun hc=>by rw [h.2 hc] at e;cases e⟩))
theorem notB {c:Bool} {P:Prop} (h:c=true↔P):(!c)=true↔¬ P:=by
 rw [← h];cases c<;>simp
theorem eqInts {l m:List Int} (hn:l.length≤1000000):Tot (A3q l m) (fun b=>b=true↔l=m):=by
 unfold A3q;refine eqLoop hn (fun k hk hk' => ?_) (by unfold A0o;simp);unfold A0o;refine Tot.iteT (by simpa using hk) (Tot.bindIdx k rfl hk (Tot.bindIdx k rfl hk' (stepTF (by simp))))
theorem eqInts4 {l m:List Int} (hn:l.length≤1000000):Tot (A1g l m) (fun b=>b=true↔l=m):=by
 unfold A1g;refine eqLoop hn (fun k hk hk' => ?_) (by unfold W9;simp);unfold W9;refine Tot.iteT (by simpa using hk) (Tot.bindIdx k rfl hk (Tot.bindIdx k rfl hk' (stepTF (by simp))))
theorem B2a {s t:B4}:s=t↔s.fSet=t.fSet∧s.fASNs=t.fASNs:=by
 cases s;cases t;simp
theorem B8m {s t:B5}:s=t↔s.fA=t.fA∧s.fB=t.fB:=by
 cases s;cases t;simp
theorem B8n {s t:E7}:s=t↔s.fA=t.fA∧s.fB=t.fB∧s.fC=t.fC:=by
 cases s;cases t;simp
theorem B0g {s t:A3}:s=t↔s.fFlags=t.fFlags∧s.fType=t.fType∧s.fData=t.fData:=by
 cases s;cases t;simp
theorem eqPath {l m:List B4} (hn:l.length≤2000) (hs:∀ s∈l,s.fASNs.length≤2000):Tot (Y6 l m) (fun b=>b=true↔l=m):=by
 unfold Y6;refine eqLoop (by omega) (fun k hk hk' => ?_) (by unfold S2;simp);unfold S2;refine Tot.iteT (by simpa using hk) (Tot.bindIdx k rfl hk (Tot.bindIdx k rfl hk' ?_));refine Tot.bindT (show Tot (A2d l[k] m[k]) (fun b=>b=true↔l[k]=m[k]) from ?_) fun b hb => ?_
 ·unfold A2d;refine Tot.jn ?_;refine Tot.ite (fun e => ?_) (fun e=>Tot.some ?_)
  ·refine Tot.bindT (eqInts (m:=m[k].fASNs) (Nat.le_trans (hs _ (List.getElem_mem hk)) (by decide))) fun b hb=>Tot.some ?_;rw [hb,B2a];simp [show l[k].fSet=m[k].fSet by simpa using e]
  ·rw [B2a];have:¬ l[k].fSet=m[k].fSet:=by simpa using e
   simp [this]
 ·exact stepTF (by rw [← hb];cases b<;>simp)
theorem eqCom {l m:List B5} (hn:l.length≤2000):Tot (A1e l m) (fun b=>b=true↔l=m):=by
 unfold A1e;refine eqLoop (by omega) (fun k hk hk' => ?_) (by unfold W7;simp);unfold W7;refine Tot.iteT (by simpa using hk) (Tot.bindIdx k rfl hk (Tot.bindIdx k rfl hk' (stepTF ?_)));rw [B8m];exact notB (by simp)
theorem eqLar {l m:List E7} (hn:l.length≤2000):Tot (A1f l m) (fun b=>b=true↔l=m):=by
 unfold A1f;refine eqLoop (by omega) (fun k hk hk' => ?_) (by unfold W8;simp);unfold W8;refine Tot.iteT (by simpa using hk) (Tot.bindIdx k rfl hk (Tot.bindIdx k rfl hk' (stepTF ?_)));rw [B8n];exact notB (by simp)
theorem eqOth {l m:List A3} (hn:l.length≤2000) (hs:∀ x∈l,x.fData.length≤2000):Tot (T8 l m) (fun b=>b=true↔l=m):=by
 unfold T8;refine eqLoop (by omega) (fun k hk hk' => ?_) (by unfold O8;simp);unfold O8;refine Tot.iteT (by simpa using hk) (Tot.bindIdx k rfl hk (Tot.bindIdx k rfl hk' ?_));refine Tot.bindT (show Tot (A2e l[k] m[k]) (fun b=>b=true↔l[k]=m[k]) from ?_) fun b hb => ?_
 ·unfold A2e;refine Tot.jn ?_;refine Tot.ite (fun e => ?_) (fun e=>Tot.some ?_)
  ·refine Tot.bindT (eqInts4 (m:=m[k].fData) (Nat.le_trans (hs _ (List.getElem_mem hk)) (by decide))) fun b hb=>Tot.some ?_;rw [Bool.and_eq_true,beq_iff_eq,beq_iff_eq] at e;rw [hb,B0g];simp [e.1,e.2]
  ·rw [B0g];rw [Bool.and_eq_false_iff] at e;simp only [Bool.false_eq_true,false_iff,not_and];intro h1 h2;rw [h1,h2] at e;simp at e
 ·exact stepTF (by rw [← hb];cases b<;>simp)
theorem A4a {a b:C2}:a=b↔a.fOrigin=b.fOrigin∧a.fNext=b.fNext∧a.fMED=b.fMED∧a.fPref=b.fPref∧a.fOTC=b.fOTC∧a.fPath=b.fPath∧a.fCommunities=b.fCommunities∧a.fLarge=b.fLarge∧a.fOther=b.fOther:=by
 cases a;cases b;simp only [C2.mk.injEq];constructor
 ·rintro⟨a1,a2,a3,a4,a5,a6,a7,a8,a9⟩;exact⟨a1,a3,a4,a5,a6,a2,a7,a8,a9⟩
 ·rintro⟨a1,a2,a3,a4,a5,a6,a7,a8,a9⟩;exact⟨a1,a6,a2,a3,a4,a5,a7,a8,a9⟩
theorem B4m {o:Option Bool} {a b:C2} (h:Tot o (fun r=>r=true↔a=b)):o=some (aD a b):=by
 obtain⟨r,e,hr⟩:=h;rw [e];congr 1;rw [Bool.eq_iff_iff,hr,A91]
theorem C14 {a b:C2} (h:Sm a):A4u a b=some (aD a b):=by
 refine B4m ?_;unfold A4u;refine Tot.jnR (fun m=>m=true↔a=b) (fun j hj => ?_) (fun m hm=>Tot.some hm);refine Tot.ite (fun e => ?_) (fun e => ?_)
 ·have e':a.fOrigin=b.fOrigin∧a.fNext=b.fNext∧a.fMED=b.fMED∧a.fPref=b.fPref∧a.fOTC=b.fOTC:=by
   have hx:aeq a.fNext b.fNext=true↔a.fNext=b.fNext:=A5n;unfold aeq at hx;simp only [Bool.and_eq_true,beq_iff_eq] at e hx;exact⟨e.1.1.1.1,hx.1 e.1.1.1.2,e.1.1.2,e.1.2,e.2⟩
  refine Tot.bindT (eqPath h.path h.seg) fun b1 h1 => ?_;refine Tot.ite (fun e1 => ?_) (fun e1=>hj _ ⟨(fun e=>by cases e),fun hh=>by rw [h1.2 (A4a.1 hh).2.2.2.2.2.1] at e1;cases e1⟩);refine Tot.bindT (eqCom h.com) fun b2 h2 => ?_;refine Tot.ite (fun e2 => ?_) (fun e2=>hj _ ⟨(fun e=>by cases e),fun hh=>by rw [h2.2 (A4a.1 hh).2.2.2.2.2.2.1] at e2;cases e2⟩);refine Tot.bindT (eqLar h.lar) fun b3 h3 => ?_;refine Tot.ite (fun e3 => ?_) (fun e3=>hj _ ⟨(fun e=>by cases e),fun hh=>by rw [h3.2 (A4a.1 hh).2.2.2.2.2.2.2.1] at e3;cases e3⟩);refine Tot.bindT (eqOth h.oth fun x hx=>(h.dat x hx).1) fun b4 h4=>hj _ ?_;rw [h4,A4a];exact⟨fun hh=>⟨e'.1,e'.2.1,e'.2.2.1,e'.2.2.2.1,e'.2.2.2.2,h1.1 e1,h2.1 e2,h3.1 e3,hh⟩,fun hh=>hh.2.2.2.2.2.2.2.2⟩
 ·refine hj _ ⟨(fun e=>by cases e),fun hh => ?_⟩;rw [hh] at e;simp at e
theorem sameInts {l m:List Int} (hn:l.length≤1000000):Tot (A0p l m) (fun b=>b=true↔l=m):=by
 unfold A0p;refine eqLoop hn (fun k hk hk' => ?_) (by unfold U1;simp);unfold U1;refine Tot.iteT (by simpa using hk) (Tot.bindIdx k rfl hk (Tot.bindIdx k rfl hk' (stepTF (by simp))))
theorem B6l:∀ {l m:List Int},(∀ x∈l,byte x)→(∀ x∈m,byte x)→(bstr l=bstr m↔l=m)
 | [],[],_,_=>by simp [bstr]
 | [],y :: m,_,_=>by simp [bstr]
 | x :: l,[],_,_=>by simp [bstr]
 | x :: l,y :: m,h1,h2=>by
  have ih:=B6l (fun z hz=>h1 z (List.mem_cons_of_mem _ hz)) (fun z hz=>h2 z (List.mem_cons_of_mem _ hz));have hx:=h1 x (List.mem_cons_self ..);have hy:=h2 y (List.mem_cons_self ..);unfold bstr at ih ⊢;unfold byte at hx hy;rw [List.map_cons,List.map_cons,List.cons.injEq,List.cons.injEq,ih];have:UInt8.ofNat x.toNat=UInt8.ofNat y.toNat↔x=y:=by
   rw [← UInt8.toNat_inj];simp only [UInt8.toNat_ofNat'];omega
  rw [this]
theorem B2b {a b:C2} (ha:Sm a) (hb:Sm b):J8 a b=some (aD a b):=by
 refine B4m ?_;unfold J8;refine Tot.ite (fun e=>Tot.some ⟨(fun e=>by cases e),fun hh => ?_⟩) (fun e => ?_)
 ·rw [hh] at e;simp at e
 have hx:aeq a.fNext b.fNext=true↔a.fNext=b.fNext:=A5n;unfold aeq at hx;simp only [Bool.or_eq_false_iff,bne_eq_false_iff_eq,Bool.not_eq_false',hx] at e;obtain⟨⟨⟨⟨⟨⟨⟨⟨e1,e2⟩,e3⟩,e4⟩,e5⟩,l1⟩,l2⟩,l3⟩,l4⟩:=e;have hp:=ha.path;have hc:=ha.com;have hl:=ha.lar;have ho:=ha.oth;have s1:Tot (loop (N2 a b) (0:Int)) (fun x=>(x = .inl ()∧a.fPath≠b.fPath)∨(x = .inr ()∧a.fPath=b.fPath)):=by
  refine scanE (by omega) (by omega) (fun k hk hk' => ?_) (by unfold N2;simp);unfold N2;refine Tot.iteT (by simpa using hk) ?_;refine Tot.jnR (fun m=>m=true↔¬ a.fPath[k]=b.fPath[k]) (fun j hj => ?_) (fun m hm=>stepTF hm);refine Tot.bindIdx k rfl hk (Tot.bindIdx k rfl hk' ?_);refine Tot.ite (fun e=>hj _ ?_) (fun e => ?_)
  ·rw [B2a];have:¬ a.fPath[k].fSet=b.fPath[k].fSet:=by simpa using e
   simp [this]
  ·refine Tot.bindIdx k rfl hk (Tot.bindIdx k rfl hk' ?_);refine Tot.bindT (sameInts (m:=b.fPath[k].fASNs) (Nat.le_trans (ha.seg _ (List.getElem_mem hk)) (by decide))) fun x hx=>hj _ ?_;have:a.fPath[k].fSet=b.fPath[k].fSet:=by simpa using e
   rw [B2a,← hx];cases x<;>simp [this]
 have s2:Tot (loop (N3 a b) (0:Int)) (fun x=>(x = .inl ()∧a.fCommunities≠b.fCommunities)∨(x = .inr ()∧a.fCommunities=b.fCommunities)):=by
  refine scanE (by omega) (by omega) (fun k hk hk' => ?_) (by unfold N3;simp);unfold N3;refine Tot.iteT (by simpa using hk) (Tot.bindIdx k rfl hk (Tot.bindIdx k rfl hk' (stepTF ?_)));rw [B8m];exact notB (by simp)
 have s3:Tot (loop (N4 a b) (0:Int)) (fun x=>(x = .inl ()∧a.fLarge≠b.fLarge)∨(x = .inr ()∧a.fLarge=b.fLarge)):=by
  refine scanE (by omega) (by omega) (fun k hk hk' => ?_) (by unfold N4;simp);unfold N4;refine Tot.iteT (by simpa using hk) (Tot.bindIdx k rfl hk (Tot.bindIdx k rfl hk' (stepTF ?_)));rw [B8n];exact notB (by simp)
 have s4:Tot (loop (N5 a b) (0:Int)) (fun x=>(x = .inl ()∧a.fOther≠b.fOther)∨(x = .inr ()∧a.fOther=b.fOther)):=by
  refine scanE (by omega) (by omega) (fun k hk hk' => ?_) (by unfold N5;simp);unfold N5;refine Tot.iteT (by simpa using hk) ?_;refine Tot.jnR (fun m=>m=true↔¬ a.fOther[k]=b.fOther[k]) (fun j hj => ?_) (fun m hm=>stepTF hm);refine Tot.bindIdx k rfl hk (Tot.bindIdx k rfl hk' ?_);refine Tot.ite (fun e=>hj _ ?_) (fun e1 => ?_)
  ·rw [B0g];have:¬ a.fOther[k].fFlags=b.fOther[k].fFlags:=by simpa using e
   simp [this]
  refine Tot.bindIdx k rfl hk (Tot.bindIdx k rfl hk' ?_);refine Tot.ite (fun e=>hj _ ?_) (fun e2 => ?_)
  ·rw [B0g];have:¬ a.fOther[k].fType=b.fOther[k].fType:=by simpa using e
   simp [this]
  refine Tot.bindIdx k rfl hk (Tot.bindIdx k rfl hk' (hj _ ?_));have g1:a.fOther[k].fFlags=b.fOther[k].fFlags:=by simpa using e1
  have g2:a.fOther[k].fType=b.fOther[k].fType:=by simpa using e2
  rw [B0g,← B6l (ha.dat _ (List.getElem_mem hk)).2 (hb.dat _ (List.getElem_mem hk')).2];simp [g1,g2]
 refine Tot.bindT s1 fun x1 h1 => ?_;rcases h1 with ⟨rfl,h1⟩ | ⟨rfl,h1⟩
 ·exact Tot.some ⟨(fun e=>by cases e),fun hh=>absurd (A4a.1 hh).2.2.2.2.2.1 h1⟩
 refine Tot.bindT s2 fun x2 h2 => ?_;rcases h2 with ⟨rfl,h2⟩ | ⟨rfl,h2⟩
 ·exact Tot.some ⟨(fun e=>by cases e),fun hh=>absurd (A4a.1 hh).2.2.2.2.2.2.1 h2⟩
 refine Tot.bindT s3 fun x3 h3 => ?_;rcases h3 with ⟨rfl,h3⟩ | ⟨rfl,h3⟩
 ·exact Tot.some ⟨(fun e=>by cases e),fun hh=>absurd (A4a.1 hh).2.2.2.2.2.2.2.1 h3⟩
 refine Tot.bindT s4 fun x4 h4 => ?_;rcases h4 with ⟨rfl,h4⟩ | ⟨rfl,h4⟩
 ·exact Tot.some ⟨(fun e=>by cases e),fun hh=>absurd (A4a.1 hh).2.2.2.2.2.2.2.2 h4⟩
 ·exact Tot.some ⟨fun _=>A4a.2 ⟨e1,e2,e3,e4,e5,h1,h2,h3,h4⟩,fun _=>rfl⟩
end Go.Proofs.YtplbaenjbihekaaGreatDoor
