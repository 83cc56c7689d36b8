/- Words and prefixes, attributes of decks, the sizes of codes, in plain Lean. -/
import Derived.Test.YtkhjkjojjdkidaaGreatDoorFns
import Derived.Test.YtkhjkjojjdkidaaGreatDoorVcO
import Derived.Test.YtkhjkjojjdkidaaGreatDoorVcQ
namespace Go.Proofs.YtkhjkjojjdkidaaGreatDoor
open Go Go.Vc
abbrev I64 (x:Int):Prop:=IntKind.i64.min≤x∧x≤IntKind.i64.max
theorem A2i {n:Nat} (h:n<18446744073709551616):IntKind.u64.wrap (n:Int)=n:=by
 rw [IntKind.wrap_u64];omega
theorem B3q (n:Nat):IntKind.u64.wrap (n:Int)=((n % 18446744073709551616:Nat):Int):=by
 rw [IntKind.wrap_u64];omega
theorem B2w (n:Int):IntKind.u8.wrap n=n % 256:=by simp [IntKind.wrap,IntKind.bits,IntKind.signed]
theorem B29 {a b:Nat} (ha:a<18446744073709551616) (hb:b<18446744073709551616):bitI .or .u64 (a:Int) (b:Int)=((a ||| b:Nat):Int):=by
 show IntKind.u64.wrap ((BitVec.ofInt 64 (a:Int) ||| BitVec.ofInt 64 (b:Int)).toNat:Int)=_
 have e:(BitVec.ofInt 64 (a:Int) ||| BitVec.ofInt 64 (b:Int)).toNat=a ||| b:=by
  rw [BitVec.toNat_or,BitVec.ofInt_natCast,BitVec.toNat_ofNat,BitVec.ofInt_natCast,BitVec.toNat_ofNat,Nat.mod_eq_of_lt (show a<2 ^ 64 from ha),Nat.mod_eq_of_lt (show b<2 ^ 64 from hb)]
 rw [e,A2i (Nat.or_lt_two_pow (n:=64) ha hb)]
theorem B2x (n k:Nat) (hk:k≤64):shrI .u64 (n:Int) (k:Int)=((n / 2 ^ k:Nat):Int):=by
 show(n:Int).fdiv (2 ^ (min (k:Int).toNat IntKind.u64.bits))=_
 rw [show(min (k:Int).toNat IntKind.u64.bits)=k from by show min k 64=k;omega,Int.fdiv_eq_ediv_of_nonneg _ (Int.le_of_lt (Int.pow_pos (by decide)))]
 have:((2:Int) ^ k)=((2 ^ k:Nat):Int):=by rw [Int.natCast_pow];rfl
 rw [this]
 rfl
theorem A6e (n k:Nat) (hk:k≤64):shlI .u64 (n:Int) (k:Int)=((n*2 ^ k % 18446744073709551616:Nat):Int):=by
 show IntKind.u64.wrap ((n:Int)*2 ^ (min (k:Int).toNat IntKind.u64.bits))=_
 rw [show(min (k:Int).toNat IntKind.u64.bits)=k from by show min k 64=k;omega]
 have:(n:Int)*(2:Int) ^ k=((n*2 ^ k:Nat):Int):=by rw [Int.natCast_mul,Int.natCast_pow];rfl
 rw [this,B3q]
def cut (n k:Nat):Nat:=n / 2 ^ k*2 ^ k
theorem A6f (n k i:Nat):(cut n k).testBit i=(decide (k≤i)&&n.testBit i):=by
 unfold cut
 rw [Nat.testBit_mul_two_pow]
 by_cases h:k≤i
 ·rw [decide_eq_true (show i≥k from h),Nat.testBit_div_two_pow,show i-k+k=i from by omega]
 ·rw [decide_eq_false (show ¬ i≥k from h)];simp
theorem B0a (n k:Nat):cut n k≤n:=Nat.div_mul_le_self n (2 ^ k)
theorem A8z {a k:Nat} (ha:a<18446744073709551616) (hk:k≤64):bitI .andNot .u64 (a:Int) ((2 ^ k-1:Nat):Int)=((cut a k:Nat):Int):=by
 have hp:2 ^ k≤2 ^ 64:=Nat.pow_le_pow_right (by decide) hk
 have hk0:0<2 ^ k:=Nat.pow_pos (by decide)
 have e:(BitVec.ofInt 64 (a:Int) &&& ~~~(BitVec.ofInt 64 ((2 ^ k-1:Nat):Int))).toNat=cut a k:=by
  refine Nat.eq_of_testBit_eq fun i => ?_
  rw [BitVec.testBit_toNat,BitVec.getLsbD_and,BitVec.getLsbD_not,BitVec.ofInt_natCast,BitVec.ofInt_natCast,BitVec.getLsbD_ofNat,BitVec.getLsbD_ofNat,A6f,Nat.testBit_two_pow_sub_one]
  by_cases h1:i<64
  ·by_cases h2:k≤i
   ·rw [decide_eq_true h1,decide_eq_true h2,decide_eq_false (show ¬ i<k by omega)];simp
   ·rw [decide_eq_true h1,decide_eq_false h2,decide_eq_true (show i<k by omega)];simp
  ·rw [decide_eq_false h1]
   have:a.testBit i=false:=Nat.testBit_lt_two_pow (Nat.lt_of_lt_of_le (show a<2 ^ 64 from ha) (Nat.pow_le_pow_right (by decide) (by omega)))
   rw [this];simp
 show IntKind.u64.wrap ((BitVec.ofInt 64 (a:Int) &&& ~~~(BitVec.ofInt 64 ((2 ^ k-1:Nat):Int))).toNat:Int)=_
 rw [e,A2i (Nat.lt_of_le_of_lt (B0a a k) ha)]
-- numbers of addresses
def nA (a:D0):Nat:=a.fHi.toNat*18446744073709551616+a.fLo.toNat
def aR (a:D0):Prop:=(0≤a.fHi∧a.fHi<18446744073709551616)∧(0≤a.fLo∧a.fLo<18446744073709551616)
def mkA (v6:Bool) (n:Nat):D0:=D0.mk v6 ((n / 18446744073709551616:Nat):Int) ((n % 18446744073709551616:Nat):Int)
def wid (v6:Bool):Nat:=if v6=true then 128 else 32
theorem B0b {a:D0} (h:aR a):mkA a.fV6 (nA a)=a:=by
 obtain⟨v,hi,lo⟩:=a
 obtain⟨⟨h1,h2⟩,h3,h4⟩:=h
 simp only at h1 h2 h3 h4
 have e1:((nA ⟨v,hi,lo⟩ / 18446744073709551616:Nat):Int)=hi:=by unfold nA;simp only;omega
 have e2:((nA ⟨v,hi,lo⟩ % 18446744073709551616:Nat):Int)=lo:=by unfold nA;simp only;omega
 unfold mkA
 rw [e1,e2]
theorem B4k (v:Bool) (n:Nat):nA (mkA v n)=n:=by
 unfold nA mkA
 simp only [Int.toNat_natCast]
 exact Nat.div_add_mod' n 18446744073709551616
def aV (a:D0):Prop:=aR a∧(a.fV6=true∨(a.fHi=0∧a.fLo<4294967296))
theorem B6x {a:D0} (h:aV a):nA a<2 ^ wid a.fV6:=by
 obtain⟨v,hi,lo⟩:=a
 obtain⟨⟨⟨h1,h2⟩,h3,h4⟩,h5⟩:=h
 simp only at h1 h2 h3 h4 h5
 unfold nA wid
 simp only
 cases v with
 | true =>
  rw [if_pos rfl,show(2:Nat) ^ 128=340282366920938463463374607431768211456 from by decide];omega
 | false =>
  rw [if_neg (by simp),show(2:Nat) ^ 32=4294967296 from by decide]
  rcases h5 with h5 | h5
  ·cases h5
  ·omega
theorem B2a (v:Bool):wid v≤128:=by unfold wid;split<;>omega
theorem B2y (v:Bool):32≤wid v:=by unfold wid;split<;>omega
theorem B6y {a b:D0} (ha:aR a) (hb:aR b) (h1:a.fV6=b.fV6) (h2:nA a=nA b):a=b:=by
 rw [← B0b ha,← B0b hb,h1,h2]
-- the code's words
theorem A90 (a:D0):X5 a=some ((wid a.fV6:Nat):Int):=by
 unfold X5 wid
 cases a.fV6<;>rfl
theorem A5h (a:D0) (h:aR a):Tot (S2 a) (fun b=>b=true↔aV a):=by
 unfold S2
 obtain⟨⟨h1,h2⟩,h3,h4⟩:=h
 refine Tot.jn (Tot.ite (fun h=>Tot.some ⟨fun _=>⟨⟨⟨h1,h2⟩,h3,h4⟩,.inl h⟩,fun _=>rfl⟩) (fun h=>Tot.some ⟨fun e => ?_,fun e => ?_⟩))
 ·simp only [Bool.and_eq_true,beq_iff_eq,decide_eq_true_eq] at e
  exact⟨⟨⟨h1,h2⟩,h3,h4⟩,.inr e⟩
 ·rcases e.2 with e | e
  ·rw [h] at e;cases e
  ·simp [e]
theorem A5z (a:D0):P9 a=S2 a:=rfl
theorem B4l {k:Nat} (hk:k≤128):A0j (k:Int)=some (((2 ^ (k-64)-1:Nat):Int),((2 ^ (min k 64)-1:Nat):Int)):=by
 unfold A0j
 by_cases h:64<k
 ·refine B11 (by simp;omega) ?_
  have e1:w64 ((k:Int)-64)=((k-64:Nat):Int):=by rw [F3 (by omega) (by omega)];omega
  have e2:(1:Int)=((1:Nat):Int):=rfl
  rw [e1,A2i (by omega),e2,A6e 1 (k-64) (by omega),Nat.one_mul]
  have hp:2 ^ (k-64)≤2 ^ 64:=Nat.pow_le_pow_right (by decide) (by omega)
  have h0:0<2 ^ (k-64):=Nat.pow_pos (by decide)
  have e64:(2:Nat) ^ 64=18446744073709551616:=by decide
  rw [Nat.min_eq_right (by omega)]
  congr 1
  refine Prod.ext ?_ rfl
  simp only
  rw [IntKind.wrap_u64]
  omega
 ·refine B12 (by simp;omega) ?_
  have e2:(1:Int)=((1:Nat):Int):=rfl
  rw [A2i (by omega),e2,A6e 1 k (by omega),Nat.one_mul,show k-64=0 from by omega,Nat.min_eq_left (by omega)]
  have hp:2 ^ k≤2 ^ 64:=Nat.pow_le_pow_right (by decide) (by omega)
  have h0:0<2 ^ k:=Nat.pow_pos (by decide)
  have e64:(2:Nat) ^ 64=18446744073709551616:=by decide
  congr 1
  refine Prod.ext rfl ?_
  simp only
  rw [IntKind.wrap_u64]
  omega
theorem B3r (hi lo k:Nat) (hlo:lo<18446744073709551616) (hk:k≤128):cut (hi*18446744073709551616+lo) k=cut hi (k-64)*18446744073709551616+cut lo (min k 64):=by
 have e64:(18446744073709551616:Nat)=2 ^ 64:=by decide
 rw [e64] at hlo ⊢
 refine Nat.eq_of_testBit_eq fun i => ?_
 have hl:cut lo (min k 64)<2 ^ 64:=Nat.lt_of_le_of_lt (B0a _ _) hlo
 rw [A6f,Nat.mul_comm,Nat.testBit_two_pow_mul_add _ hlo,Nat.mul_comm (cut hi (k-64)),Nat.testBit_two_pow_mul_add _ hl,A6f,A6f]
 by_cases h1:i<64
 ·rw [if_pos h1,if_pos h1]
  by_cases h2:k≤i
  ·rw [decide_eq_true h2,decide_eq_true (show min k 64≤i by omega)]
  ·rw [decide_eq_false h2,decide_eq_false (show ¬ min k 64≤i by omega)]
 ·rw [if_neg h1,if_neg h1]
  by_cases h2:k≤i
  ·rw [decide_eq_true h2,decide_eq_true (show k-64≤i-64 by omega)]
  ·rw [decide_eq_false h2,decide_eq_false (show ¬ k-64≤i-64 by omega)]
theorem B4m {a:D0} (ha:aR a) {n:Nat} (hn:n≤wid a.fV6):A0k a (n:Int)=some (mkA a.fV6 (cut (nA a) (wid a.fV6-n))):=by
 obtain⟨v,hi,lo⟩:=a
 obtain⟨⟨h1,h2⟩,h3,h4⟩:=ha
 simp only at h1 h2 h3 h4 hn ⊢
 obtain⟨H,rfl⟩:∃ H:Nat,hi=H:=⟨hi.toNat,by omega⟩
 obtain⟨L,rfl⟩:∃ L:Nat,lo=L:=⟨lo.toNat,by omega⟩
 have hw:=B2a v
 unfold A0k
 refine L0 (A90 _) ?_
 simp only
 have e:w64 (((wid v:Nat):Int)-(n:Int))=((wid v-n:Nat):Int):=by rw [F3 (by omega) (by omega)];omega
 rw [e]
 refine L0 (B4l (by omega)) ?_
 simp only
 rw [A8z (by omega) (by omega),A8z (by omega) (by omega)]
 have hn':nA ⟨v,(H:Int),(L:Int)⟩=H*18446744073709551616+L:=by unfold nA;simp
 rw [hn',B3r H L _ (by omega) (by omega)]
 have hl:=B0a L (min (wid v-n) 64)
 congr 1
 unfold mkA
 generalize cut H (wid v-n-64)=X
 generalize cut L (min (wid v-n) 64)=Y at hl
 congr 1
 ·omega
 ·omega
theorem A5b {α:Type} {Q:List α→Prop} (h0:Q []) (h1:∀ b x,Q b→Q (b++[x])):∀ b,Q b:=fun b=>by
 rw [← List.reverse_reverse b]
 induction b.reverse with
 | nil=>exact h0
 | cons x l ih=>rw [List.reverse_cons];exact h1 _ _ ih
theorem lt8 {n:Nat} (h:n<256):n<2 ^ 8:=h
def byte (x:Int):Prop:=0≤x∧x<256
def VB (b:List Int):Nat:=b.foldl (fun v x=>v*256+x.toNat) 0
theorem A81 (b:List Int) (x:Int):VB (b++[x])=VB b*256+x.toNat:=by unfold VB;rw [List.foldl_append];rfl
theorem B4n {b:List Int}:(∀ x∈b,byte x)→VB b<2 ^ (8*b.length):=by
 refine A5b (Q:=fun b=>(∀ x∈b,byte x)→VB b<2 ^ (8*b.length)) ?_ ?_ b
 ·intro _;decide
 ·intro b x ih h
  have h1:=ih fun y hy=>h y (List.mem_append_left _ hy)
  have h2:=h x (List.mem_append_right _ (List.mem_singleton.2 rfl))
  unfold byte at h2
  rw [A81,List.length_append,List.length_singleton,Nat.mul_add,Nat.pow_add]
  have:2 ^ (8*1)=256:=by decide
  rw [this]
  omega
def bt (b:List Int) (j:Nat):Bool:=(b.getD (j / 8) 0).toNat.testBit (7-j % 8)
theorem B4o {b:List Int}:(∀ x∈b,byte x)→∀ {j:Nat},j<8*b.length→(VB b).testBit (8*b.length-1-j)=bt b j:=by
 refine A5b (Q:=fun b=>(∀ x∈b,byte x)→∀ {j:Nat},j<8*b.length→(VB b).testBit (8*b.length-1-j)=bt b j) ?_ ?_ b
 ·intro _ j hj;simp at hj
 ·intro b x ih h j hj
  have h2:=h x (List.mem_append_right _ (List.mem_singleton.2 rfl))
  unfold byte at h2
  rw [List.length_append,List.length_singleton] at hj ⊢
  have e8:VB (b++[x])=2 ^ 8*VB b+x.toNat:=by rw [A81,Nat.mul_comm]
  rw [e8,Nat.testBit_two_pow_mul_add _ (lt8 (by omega))]
  by_cases hc:j<8*b.length
  ·have:=ih (fun y hy=>h y (List.mem_append_left _ hy)) hc
   rw [if_neg (by omega),show 8*(b.length+1)-1-j-8=8*b.length-1-j from by omega,this]
   unfold bt
   rw [List.getD_eq_getElem?_getD,List.getD_eq_getElem?_getD,List.getElem?_append_left (by omega)]
  ·rw [if_pos (by omega)]
   unfold bt
   rw [List.getD_eq_getElem?_getD,List.getElem?_append_right (by omega),show j / 8-b.length=0 from by omega]
   simp only [List.getElem?_cons_zero,Option.getD_some]
   congr 1
   omega
theorem B6o {b:List Int} (h:∀ x∈b,byte x) {n:Nat} (hn:n<2 ^ (8*b.length)) (hb:∀ j,j<8*b.length→bt b j=n.testBit (8*b.length-1-j)):VB b=n:=by
 refine Nat.eq_of_testBit_eq fun i => ?_
 by_cases hi:i<8*b.length
 ·have:=B4o h (j:=8*b.length-1-i) (by omega)
  rw [show 8*b.length-1-(8*b.length-1-i)=i from by omega] at this
  rw [this,hb _ (by omega),show 8*b.length-1-(8*b.length-1-i)=i from by omega]
 ·rw [Nat.testBit_lt_two_pow (Nat.lt_of_lt_of_le (B4n h) (Nat.pow_le_pow_right (by decide) (by omega))),Nat.testBit_lt_two_pow (Nat.lt_of_lt_of_le hn (Nat.pow_le_pow_right (by decide) (by omega)))]
theorem B5s {a:Nat} {x:Int} (ha:a<18446744073709551616) (h:byte x):bitI .or .u64 (shlI .u64 (a:Int) 8) (IntKind.u64.wrap x)=(((a*256) % 18446744073709551616+x.toNat:Nat):Int):=by
 obtain⟨h1,h2⟩:=h
 obtain⟨X,rfl⟩:∃ X:Nat,x=X:=⟨x.toNat,by omega⟩
 have e2:(8:Int)=((8:Nat):Int):=rfl
 rw [e2,A6e a 8 (by decide),A2i (by omega),show(2:Nat) ^ 8=256 from by decide]
 have hm:a*256 % 18446744073709551616<18446744073709551616:=Nat.mod_lt _ (by decide)
 rw [B29 hm (show X<18446744073709551616 by omega)]
 have e:a*256 % 18446744073709551616=2 ^ 8*(a % 72057594037927936):=by
  rw [show(2:Nat) ^ 8=256 from by decide];omega
 rw [e,← Nat.two_pow_add_eq_or_of_lt (lt8 (by omega)),Int.toNat_natCast]
theorem B5t {hi lo:Nat} (hh:hi<18446744073709551616) (hl:lo<18446744073709551616):bitI .or .u64 (shlI .u64 (hi:Int) 8) (shrI .u64 (lo:Int) 56)=(((hi*256) % 18446744073709551616+lo / 72057594037927936:Nat):Int):=by
 have e2:(8:Int)=((8:Nat):Int):=rfl
 have e3:(56:Int)=((56:Nat):Int):=rfl
 rw [e2,A6e hi 8 (by decide),e3,B2x lo 56 (by decide),show(2:Nat) ^ 8=256 from by decide,show(2:Nat) ^ 56=72057594037927936 from by decide]
 have hm:hi*256 % 18446744073709551616<18446744073709551616:=Nat.mod_lt _ (by decide)
 rw [B29 hm (show lo / 72057594037927936<18446744073709551616 by omega)]
 have e:hi*256 % 18446744073709551616=2 ^ 8*(hi % 72057594037927936):=by
  rw [show(2:Nat) ^ 8=256 from by decide];omega
 rw [e,← Nat.two_pow_add_eq_or_of_lt (lt8 (by omega))]
theorem B0c {b:List Int} (h:∀ x∈b,byte x) {v:Bool} (hl:8*b.length=wid v):R4 b=some (mkA v (VB b),0):=by
 have hw:b.length=16∧v=true∨b.length=4∧v=false:=by
  cases v with
  | true=>left;have h2:8*b.length=128:=hl;exact⟨by omega,rfl⟩
  | false=>right;have h2:8*b.length=32:=hl;exact⟨by omega,rfl⟩
 refine Tot.eq ?_
 unfold R4
 refine Tot.iteF (by rcases hw with hw | hw<;>simp [hw.1]) ?_
 refine Tot.bindRng b.length (fun k (p:Nat×Nat)=>(((k:Nat):Int),((p.1:Nat):Int),((p.2:Nat):Int))) (fun k p=>p.1<18446744073709551616∧p.2<18446744073709551616∧p.1*18446744073709551616+p.2=VB (b.take k)) (fun x=>x=(((VB b / 18446744073709551616:Nat):Int),((VB b % 18446744073709551616:Nat):Int))) (0,0) rfl ⟨by decide,by decide,rfl⟩ (fun k p hk hp => ?_) (fun p hp => ?_) (fun x hx => ?_)
 ·obtain⟨hi,lo⟩:=p
  obtain⟨h1,h2,h3⟩:=hp
  simp only at h1 h2 h3
  unfold M8
  have hx:=h _ (List.getElem_mem hk)
  refine Tot.iteT (by simpa using hk) (Tot.bindIdx k rfl hk (Tot.step (hi*256 % 18446744073709551616+lo / 72057594037927936,lo*256 % 18446744073709551616+b[k].toNat) ?_ ?_))
  ·have e:w64 ((k:Int)+1)=((k+1:Nat):Int):=by rw [F3 (by omega) (by omega)];rfl
   simp only
   rw [e,B5s h2 hx,B5t h1 h2]
  ·have hlt:=B4n (b:=b.take (k+1)) fun x hx=>h x (List.mem_of_mem_take hx)
   have hlen:(b.take (k+1)).length=k+1:=by rw [List.length_take];omega
   rw [hlen] at hlt
   have hp2:2 ^ (8*(k+1))≤2 ^ 128:=Nat.pow_le_pow_right (by decide) (by omega)
   have e128:(2:Nat) ^ 128=340282366920938463463374607431768211456:=by decide
   rw [e128] at hp2
   rw [J4 hk,A81,← h3] at hlt ⊢
   unfold byte at hx
   simp only
   omega
 ·obtain⟨hi,lo⟩:=p
  obtain⟨h1,h2,h3⟩:=hp
  simp only at h1 h2 h3
  unfold M8
  refine Tot.iteF (by simp) (Tot.last ?_)
  rw [List.take_length] at h3
  simp only
  rw [← h3]
  refine Prod.ext ?_ ?_<;>simp only<;>omega
 ·subst hx
  refine Tot.some ?_
  unfold mkA
  rcases hw with ⟨h1,h2⟩ | ⟨h1,h2⟩<;>simp [h1,h2]
theorem B5u (n:Nat):byte ((n % 256:Nat):Int):=by unfold byte;omega
theorem B3s (a:D0):A12 a=L3 a:=rfl
theorem B1b {a:D0} (h:aV a):Tot (L3 a) (fun b=>8*b.length=wid a.fV6∧(∀ x∈b,byte x)∧VB b=nA a):=by
 have hlt:=B6x h
 obtain⟨v,hi,lo⟩:=a
 have hR:=h.1
 obtain⟨⟨h1,h2⟩,h3,h4⟩:=hR
 simp only at h1 h2 h3 h4 hlt
 obtain⟨H,rfl⟩:∃ H:Nat,hi=H:=⟨hi.toNat,by omega⟩
 obtain⟨L,rfl⟩:∃ L:Nat,lo=L:=⟨lo.toNat,by omega⟩
 have hN:nA ⟨v,(H:Int),(L:Int)⟩=H*18446744073709551616+L:=by unfold nA;simp
 rw [hN] at hlt ⊢
 unfold L3
 refine Tot.bindT (A5z _ ▸ A5h _ h.1) fun r hr => ?_
 have hr1:r=true:=hr.2 h
 subst hr1
 refine Tot.iteF rfl ?_
 refine Tot.jnR (fun m:Int=>8*m=(wid v:Nat)) (fun j hj => ?_) (fun m hm => ?_)
 ·refine Tot.ite (fun hv=>hj _ ?_) (fun hv=>hj _ ?_)
  ·have:v=true:=hv
   subst this;rfl
  ·have:v=false:=hv
   subst this;rfl
 ·obtain⟨n,rfl⟩:∃ n:Nat,m=n:=⟨m.toNat,by have:=B2y v;omega⟩
  have hw:=B2a v
  have hw2:=B2y v
  refine Tot.bindT (P':=fun b:List Int=>b.length=n∧(∀ x∈b,byte x)∧VB b=H*18446744073709551616+L) ?_ fun b hb=>Tot.some ⟨by simp only;omega,hb.2.1,hb.2.2⟩
  refine Tot.loop (fun s:Int×List Int=>∃ i:Nat,i≤n∧s.1=(i:Int)-1∧s.2.length=n-i∧(∀ x∈s.2,byte x)∧VB s.2=(H*18446744073709551616+L) / 256 ^ i) (fun s=>(s.1+1).toNat) _ (fun s hs => ?_) ⟨n,Nat.le_refl _,by simp only;rw [F3 (by omega) (by omega)],by simp,fun x hx=>(by cases hx),?_⟩
  ·obtain⟨i,hi,e1,e2,e3,e4⟩:=hs
   obtain⟨p,b⟩:=s
   simp only at e1 e2 e3 e4
   subst e1
   unfold Z7
   refine Tot.ite (fun hc => ?_) (fun hc => ?_)
   ·obtain⟨i,rfl⟩:∃ k,i=k+1:=⟨i-1,by simp at hc;omega⟩
    have ei:((i+1:Nat):Int)-1=(i:Int):=by omega
    simp only [ei]
    have key:∀ w:Nat,w<18446744073709551616→(w / 2 ^ (8*(i % 8))) % 256=(H*18446744073709551616+L) / 256 ^ i % 256→Tot (chk (decide ((b++([(IntKind.u8.wrap (shrI .u64 (w:Int) (IntKind.u64.wrap ((8:Int)*(IntKind.u64.wrap (Int.tmod (i:Int) (8:Int)))))))]:List Int)).length≤LIM))
      (some (Sum.inr ((w64 ((i:Int)-(1:Int))),(b++([(IntKind.u8.wrap (shrI .u64 (w:Int) (IntKind.u64.wrap ((8:Int)*(IntKind.u64.wrap (Int.tmod (i:Int) (8:Int)))))))]:List Int)))):Option (List Int⊕(Int×List Int)))) (Rnd (fun s:Int×List Int=>∃ i:Nat,i≤n∧s.1=(i:Int)-1∧s.2.length=n-i∧(∀ x∈s.2,byte x)∧VB s.2=(H*18446744073709551616+L) / 256 ^ i) (fun s=>(s.1+1).toNat) (fun b:List Int=>b.length=n∧(∀ x∈b,byte x)∧VB b=H*18446744073709551616+L) (((i:Int)),b)):=by
     intro w hw1 hw3
     have em:Int.tmod (i:Int) 8=((i % 8:Nat):Int):=by rw [Int.tmod_eq_emod_of_nonneg (by omega)];rfl
     have e8:(8:Int)*((i % 8:Nat):Int)=((8*(i % 8):Nat):Int):=by omega
     rw [em,A2i (by omega),e8,A2i (by omega),B2x w _ (by omega),B2w]
     have e256:((w / 2 ^ (8*(i % 8)):Nat):Int) % 256=((w / 2 ^ (8*(i % 8)) % 256:Nat):Int):=rfl
     rw [e256,hw3]
     refine Tot.chk (limB (by simp;omega)) (Tot.next ⟨i,by omega,by simp only;rw [F3 (by omega) (by omega)],by simp;omega,fun x hx => ?_,?_⟩ ?_)
     ·rcases List.mem_append.1 hx with hx | hx
      ·exact e3 x hx
      ·rw [List.mem_singleton.1 hx];exact B5u _
     ·simp only
      rw [A81,e4,Int.toNat_natCast,Nat.pow_succ,← Nat.div_div_eq_div_mul]
      exact Nat.div_add_mod' _ 256
     ·simp only;rw [F3 (by omega) (by omega)];omega
    have p256:∀ k:Nat,(256:Nat) ^ k=2 ^ (8*k):=fun k=>by rw [Nat.pow_mul]
    refine Tot.jn (Tot.ite (fun h8=>key H (by omega) ?_) (fun h8=>key L (by omega) ?_))
    ·have h8':8≤i:=by simp at h8;omega
     have:(H*18446744073709551616+L) / 256 ^ i=H / 2 ^ (8*(i % 8)):=by
      rw [p256,show 8*i=64+8*(i % 8) from by omega,Nat.pow_add,← Nat.div_div_eq_div_mul,show(2:Nat) ^ 64=18446744073709551616 from by decide]
      congr 1
      omega
     rw [this]
    ·have h8':i<8:=by simp at h8;omega
     rw [p256,show i % 8=i from by omega]
     have hi8:i=0∨i=1∨i=2∨i=3∨i=4∨i=5∨i=6∨i=7:=by omega
     rcases hi8 with rfl | rfl | rfl | rfl | rfl | rfl | rfl | rfl<;>simp only [Nat.reduceMul,Nat.reducePow]<;>omega
   ·have:i=0:=by simp at hc;omega
    subst this
    exact Tot.out ⟨by simp only;omega,e3,by simp only;rw [e4];simp⟩
  ·simp only
   have e:(256:Nat) ^ n=2 ^ wid v:=by
    rw [show wid v=8*n from by omega,Nat.pow_mul]
   rw [e,Nat.div_eq_of_lt hlt]
   rfl
-- bits of bytes
theorem B3t {m:Nat} (hm:m<8):shrI .u8 128 (m:Int)=((2 ^ (7-m):Nat):Int):=by
 have e:m=0∨m=1∨m=2∨m=3∨m=4∨m=5∨m=6∨m=7:=by omega
 rcases e with rfl | rfl | rfl | rfl | rfl | rfl | rfl | rfl<;>decide
theorem B5v (x:Int):byte x→IntKind.u8.wrap x=x:=fun h=>by unfold byte at h;rw [B2w];omega
theorem B3u {x:Int} (h:byte x) {m:Nat} (hm:m<8):byte (bitI .andNot .u8 x ((2 ^ m:Nat):Int))∧∀ i,(bitI .andNot .u8 x ((2 ^ m:Nat):Int)).toNat.testBit i=(x.toNat.testBit i && !decide (i=m)):=by
 obtain⟨h1,h2⟩:=h
 obtain⟨X,rfl⟩:∃ X:Nat,x=X:=⟨x.toNat,by omega⟩
 have hX:X<2 ^ 8:=lt8 (by omega)
 have hp:2 ^ m<2 ^ 8:=Nat.pow_lt_pow_right (by decide) hm
 have hle:(BitVec.ofInt 8 (X:Int) &&& ~~~(BitVec.ofInt 8 ((2 ^ m:Nat):Int))).toNat<2 ^ 8:=BitVec.isLt _
 have e0:bitI .andNot .u8 (X:Int) ((2 ^ m:Nat):Int)=((BitVec.ofInt 8 (X:Int) &&& ~~~(BitVec.ofInt 8 ((2 ^ m:Nat):Int))).toNat:Int):=by
  show IntKind.u8.wrap ((BitVec.ofInt 8 (X:Int) &&& ~~~(BitVec.ofInt 8 ((2 ^ m:Nat):Int))).toNat:Int)=_
  refine B5v _ ?_
  unfold byte
  have:(2:Nat) ^ 8=256:=by decide
  omega
 rw [e0]
 refine⟨?_,fun i => ?_⟩
 ·unfold byte
  have:(2:Nat) ^ 8=256:=by decide
  omega
 ·rw [Int.toNat_natCast,BitVec.testBit_toNat,BitVec.getLsbD_and,BitVec.getLsbD_not,BitVec.ofInt_natCast,BitVec.ofInt_natCast,BitVec.getLsbD_ofNat,BitVec.getLsbD_ofNat,Nat.testBit_two_pow,Int.toNat_natCast]
  by_cases h8:i<8
  ·rw [decide_eq_true h8]
   by_cases hi:i=m
   ·subst hi;simp
   ·rw [decide_eq_false (show ¬ m=i from fun e=>hi e.symm),decide_eq_false hi];simp
  ·rw [decide_eq_false h8]
   have:X.testBit i=false:=Nat.testBit_lt_two_pow (Nat.lt_of_lt_of_le hX (Nat.pow_le_pow_right (by decide) (by omega)))
   rw [this];simp
theorem B6p {b:List Int} {j:Nat} (hj:j<8*b.length) {y:Int} {f:Bool→Bool} (hy:∀ i,y.toNat.testBit i=if i=7-j % 8 then f ((b.getD (j / 8) 0).toNat.testBit i) else (b.getD (j / 8) 0).toNat.testBit i):∀ i,i<8*b.length→bt (b.set (j / 8) y) i=if i=j then f (bt b i) else bt b i:=by
 intro i hi
 unfold bt
 rw [List.getD_eq_getElem?_getD,List.getD_eq_getElem?_getD]
 by_cases h:j / 8=i / 8
 ·rw [← h,List.getElem?_set_self (by omega),Option.getD_some,hy,List.getD_eq_getElem?_getD]
  by_cases h2:i=j
  ·subst h2;simp
  ·rw [if_neg h2,if_neg (by omega)]
 ·rw [List.getElem?_set_ne h,if_neg (by intro e;subst e;exact h rfl)]
theorem B4p {b:List Int} {k:Nat} (hk:k<b.length):b.getD k 0=b[k]:=by
 rw [List.getD_eq_getElem?_getD,List.getElem?_eq_getElem hk];rfl
theorem B4q {b:List Int} (h:∀ x∈b,byte x) {k:Nat} {y:Int} (hy:byte y):∀ x∈b.set k y,byte x:=fun x hx=>by
 rcases List.mem_or_eq_of_mem_set hx with hx | rfl
 ·exact h x hx
 ·exact hy
theorem idx8 {j:Nat} (hj:j<4611686018427387904):w64 (Int.tdiv (j:Int) 8)=((j / 8:Nat):Int):=by
 rw [Int.tdiv_eq_ediv_of_nonneg (by omega),F3 (by omega) (by omega)];rfl
theorem shift8 {j:Nat}:shrI .u8 128 (IntKind.u64.wrap (Int.tmod (j:Int) 8))=((2 ^ (7-j % 8):Nat):Int):=by
 have e:Int.tmod (j:Int) 8=((j % 8:Nat):Int):=by rw [Int.tmod_eq_emod_of_nonneg (by omega)];rfl
 rw [e,A2i (by omega),B3t (by omega)]
theorem B3v {b:List Int} (hb:∀ x∈b,byte x) (hl:b.length≤16) {n:Nat} (hn:n≤8*b.length):Tot (loop (W8) ((n:Int),b)) (fun r=>r.length=b.length∧(∀ x∈r,byte x)∧VB r=cut (VB b) (8*b.length-n)):=by
 refine(Tot.loop (fun s:Int×List Int=>∃ i:Nat,s.1=i∧n≤i∧i≤8*b.length∧s.2.length=b.length∧(∀ x∈s.2,byte x)∧∀ j,j<8*b.length→bt s.2 j=(bt b j && !(decide (n≤j)&&decide (j<i)))) (fun s=>8*b.length-s.1.toNat) (fun r=>r.length=b.length∧(∀ x∈r,byte x)∧∀ j,j<8*b.length→bt r j=(bt b j && !decide (n≤j))) (fun s hs => ?_) ⟨n,rfl,Nat.le_refl _,hn,rfl,hb,fun j hj => ?_⟩).mono fun r hr=>⟨hr.1,hr.2.1,?_⟩
 ·obtain⟨i,e1,h1,h2,h3,h4,h5⟩:=hs
  obtain⟨p,c⟩:=s
  simp only at e1 h3 h4 h5
  subst e1
  unfold W8
  have e8:w64 ((8:Int)*(c.length:Int))=((8*c.length:Nat):Int):=by rw [F3 (by omega) (by omega)];omega
  simp only [e8]
  refine Tot.ite (fun hc => ?_) (fun hc => ?_)
  ·have hi:i<8*b.length:=by simp at hc;omega
   simp only [idx8 (show i<4611686018427387904 by omega),shift8]
   have hk:i / 8<c.length:=by omega
   have hx:=h4 _ (List.getElem_mem hk)
   obtain⟨g1,g2⟩:=B3u hx (show 7-i % 8<8 by omega)
   refine Tot.bindIdx (i / 8) rfl hk (Tot.bindIdx (i / 8) rfl hk (Tot.bindIdx (i / 8) rfl hk (Tot.bindIdx (i / 8) rfl hk ?_)))
   have ew:w64 ((i:Int)+1)=((i+1:Nat):Int):=by rw [F3 (by omega) (by omega)];rfl
   refine Tot.next ⟨i+1,ew,by omega,by omega,?_,B4q h4 g1,fun j hj => ?_⟩ ?_
   ·simp only [Int.toNat_natCast,List.length_set];exact h3
   ·simp only [Int.toNat_natCast]
    rw [B6p (f:=fun _=>false) (by omega) (fun k => ?_) j (by omega)]
    ·by_cases hji:j=i
     ·subst hji
      rw [if_pos rfl,decide_eq_true h1,decide_eq_true (Nat.lt_succ_self j)];simp
     ·rw [if_neg hji,h5 j hj]
      by_cases h6:j<i
      ·rw [decide_eq_true h6,decide_eq_true (show j<i+1 by omega)]
      ·rw [decide_eq_false h6,decide_eq_false (show ¬ j<i+1 by omega)]
    ·rw [g2 k,B4p hk]
     by_cases hki:k=7-i % 8
     ·rw [if_pos hki,decide_eq_true hki];simp
     ·rw [if_neg hki,decide_eq_false hki];simp
   ·simp only [ew,Int.toNat_natCast];omega
  ·have:i=8*b.length:=by simp at hc;omega
   subst this
   refine Tot.out ⟨h3,h4,fun j hj => ?_⟩
   rw [h5 j hj,decide_eq_true hj];simp
 ·by_cases h6:n≤j
  ·rw [decide_eq_true h6,decide_eq_false (show ¬ j<n by omega)];simp
  ·rw [decide_eq_false h6];simp
 ·obtain⟨k1,k2,k3⟩:=hr
  refine B6o k2 (by rw [k1];exact Nat.lt_of_le_of_lt (B0a _ _) (B4n hb)) fun j hj => ?_
  rw [k1] at hj ⊢
  rw [k3 j hj,A6f,B4o hb hj]
  by_cases h6:n≤j
  ·rw [decide_eq_true h6,decide_eq_false (show ¬ 8*b.length-n≤8*b.length-1-j by omega)];simp
  ·rw [decide_eq_false h6,decide_eq_true (show 8*b.length-n≤8*b.length-1-j by omega)];simp
def zA:D0:=D0.mk false 0 0
def zP:A2:=A2.mk zA 0
def aeq (a b:D0):Bool:=((a.fV6==b.fV6)&&((a.fHi==b.fHi)&&((a.fLo==b.fLo)&&true)))
theorem A6g {a b:D0}:aeq a b=true↔a=b:=by
 obtain⟨a1,a2,a3⟩:=a
 obtain⟨b1,b2,b3⟩:=b
 simp [aeq]
def peq (p q:A2):Bool:=(aeq p.fAddr q.fAddr&&((p.fLen==q.fLen)&&true))
theorem A82 {p q:A2}:peq p q=true↔p=q:=by
 obtain⟨a,n⟩:=p
 obtain⟨b,m⟩:=q
 simp [peq,A6g]
structure pV (p:A2):Prop where
 addr:aV p.fAddr
 len0:0≤p.fLen
 len1:p.fLen≤wid p.fAddr.fV6
 low:cut (nA p.fAddr) (wid p.fAddr.fV6-p.fLen.toNat)=nA p.fAddr
open Classical in
noncomputable def MakeF (a:D0) (n:Int):A2×Int :=
 if aV a then (if 0≤n∧n≤wid a.fV6 then (A2.mk (mkA a.fV6 (cut (nA a) (wid a.fV6-n.toNat))) n,0) else (zP,9)) else (zP,1)
theorem B4r {a:D0} (ha:aR a) (n:Int):A1t a n=some (MakeF a n):=by
 refine Tot.eq ?_
 unfold A1t MakeF
 refine Tot.bindT (A5z a ▸ A5h a ha) fun r hr=>Tot.ite (fun h=>Tot.some ?_) (fun h => ?_)
 ·rw [if_neg]
  ·rfl
  ·intro hv;rw [hr.2 hv] at h;cases h
 ·have hv:aV a:=hr.1 (by simpa using h)
  rw [if_pos hv]
  refine Tot.jnR (fun m:Bool=>m=true↔¬ (0≤n∧n≤wid a.fV6)) (fun j hj => ?_) (fun m hm => ?_)
  ·refine Tot.ite (fun h1=>hj _ ?_) (fun h1=>Tot.bindOf (A90 a:A2h a=_) (hj _ ?_))
   ·simp at h1
    simp
    omega
   ·simp at h1
    simp
    omega
  ·refine Tot.ite (fun h1=>Tot.some ?_) (fun h1 => ?_)
   ·rw [if_neg (hm.1 h1)];rfl
   ·have hb:0≤n∧n≤wid a.fV6:=by
     by_cases hc:0≤n∧n≤wid a.fV6
     ·exact hc
     ·rw [hm.2 hc] at h1;cases h1
    rw [if_pos hb]
    obtain⟨N,rfl⟩:∃ N:Nat,n=N:=⟨n.toNat,by omega⟩
    have hw:=B2a a.fV6
    refine Tot.bindT (B3s a ▸ B1b hv) fun b hb2 => ?_
    obtain⟨k1,k2,k3⟩:=hb2
    refine Tot.bindT (B3v k2 (by omega) (n:=N) (by omega)) fun r hr2 => ?_
    obtain⟨g1,g2,g3⟩:=hr2
    refine Tot.bindOf (B0c g2 (v:=a.fV6) (by rw [g1];exact k1)) (Tot.some ?_)
    rw [g3,k3,k1,Int.toNat_natCast]
open Classical in
theorem B3w {p:A2} (ha:aR p.fAddr):((MakeF p.fAddr p.fLen).2=0∧p=(MakeF p.fAddr p.fLen).1)↔pV p:=by
 unfold MakeF
 constructor
 ·intro⟨h1,h2⟩
  by_cases hv:aV p.fAddr
  ·rw [if_pos hv] at h1 h2
   by_cases hn:0≤p.fLen∧p.fLen≤wid p.fAddr.fV6
   ·rw [if_pos hn] at h2
    refine⟨hv,hn.1,hn.2,?_⟩
    have:=congrArg (fun q=>nA (A2.fAddr q)) h2
    simp only [B4k] at this
    exact this.symm
   ·rw [if_neg hn] at h1;cases h1
  ·rw [if_neg hv] at h1;cases h1
 ·intro h
  rw [if_pos h.addr,if_pos ⟨h.len0,h.len1⟩]
  refine⟨rfl,?_⟩
  simp only
  rw [h.low,B0b ha]
open Classical in
noncomputable def validF (p:A2):Bool:=decide (pV p)
open Classical in
theorem Q2 {p:A2}:validF p=true↔pV p:=by unfold validF;rw [decide_eq_true_iff]
theorem A9s {p:A2} (ha:aR p.fAddr):Y4 p=some (validF p):=by
 unfold Y4
 refine L0 (B4r ha _) ?_
 congr 1
 have key:(((MakeF p.fAddr p.fLen).2==0)&&peq p (MakeF p.fAddr p.fLen).1)=validF p:=by
  rw [Bool.eq_iff_iff,Q2,← B3w ha,Bool.and_eq_true,beq_iff_eq,A82]
 exact key
theorem A9t {p:A2} (ha:aR p.fAddr):X6 p=some (validF p):=by
 refine Tot.eq ?_
 unfold X6
 refine Tot.jn (Tot.bindT (A5h _ ha) fun r hr=>Tot.ite (fun h=>Tot.bindOf (A90 _) (Tot.ite (fun h1 => ?_) (fun h1=>Tot.some ?_))) (fun h=>Tot.some ?_))
 ·simp only [Bool.and_eq_true,decide_eq_true_eq] at h
  have hv:=hr.1 h.1
  have h1:=of_decide_eq_true h1
  obtain⟨N,hN⟩:∃ N:Nat,p.fLen=N:=⟨p.fLen.toNat,by omega⟩
  rw [hN] at h1 ⊢
  refine Tot.bindOf (B4m ha (by omega)) (Tot.some ?_)
  show aeq (mkA p.fAddr.fV6 (cut (nA p.fAddr) (wid p.fAddr.fV6-N))) p.fAddr=validF p
  rw [Bool.eq_iff_iff,Q2,A6g]
  constructor
  ·intro e
   refine⟨hv,h.2,by rw [hN];exact h1,?_⟩
   have:=congrArg nA e
   rw [B4k] at this
   rw [hN];exact this
  ·intro e
   have:=e.low
   rw [hN,Int.toNat_natCast] at this
   rw [this,B0b ha]
 ·symm
  rw [← Bool.not_eq_true]
  intro e
  have:=(Q2.1 e).len1
  have:=of_decide_eq_false h1
  omega
 ·symm
  rw [← Bool.not_eq_true]
  intro e
  have e:=Q2.1 e
  rw [hr.2 e.addr,decide_eq_true e.len0] at h
  cases h
-- order
theorem A08 (x y:Int):H8 x y=some (if x<y then -1 else if y<x then 1 else 0):=by
 unfold H8 A3x
 simp only [Option.bind_some,bne_self_eq_false,Bool.false_eq_true,if_false]
 by_cases h:x<y
 ·rw [if_pos h,if_pos (decide_eq_true h)]
 ·rw [if_neg h,if_neg (by simpa using h)]
  by_cases h2:y<x
  ·rw [if_pos h2,if_pos (decide_eq_true h2)]
  ·rw [if_neg h2,if_neg (by simpa using h2)]
theorem A7b (x y:Int):Z2 x y=some (if x<y then -1 else if y<x then 1 else 0):=A08 x y
def orL:List Int→Int
 | []=>0
 | x :: l=>if x≠0 then x else orL l
theorem B6b (l:List Int) (hl:l.length≤4611686018427387904):A50 l=some (orL l):=by
 refine Tot.eq ?_
 unfold A50
 refine Tot.bindRng l.length (fun k (_:Unit)=>((k:Nat):Int)) (fun k _=>orL l=orL (l.drop k)) (fun x=>match x with | .inl y=>orL l=y | .inr _=>orL l=0) () rfl rfl (fun k b hk hb => ?_) (fun b hb => ?_) (fun x hx => ?_)
 ·unfold A3y
  have hw:w64 ((k:Int)+1)=((k+1:Nat):Int):=by rw [F3 (by omega) (by omega)];rfl
  rw [List.drop_eq_getElem_cons hk] at hb
  refine Tot.iteT (by simpa using hk) (Tot.bindIdx k rfl hk (Tot.ite (fun h=>Tot.stop ?_) (fun h=>Tot.step () hw ?_)))
  ·rw [orL,if_pos (by simpa using h)] at hb
   exact hb
  ·rw [orL,if_neg (by simpa using h)] at hb
   exact hb
 ·unfold A3y
  refine Tot.iteF (by simp) (Tot.last ?_)
  rw [List.drop_length] at hb
  exact hb
 ·cases x with
  | inl y=>exact Tot.some hx.symm
  | inr u=>exact Tot.some hx.symm
def aLt (a b:D0):Prop:=(a.fV6=false∧b.fV6=true)∨(a.fV6=b.fV6∧nA a<nA b)
instance (a b:D0):Decidable (aLt a b):=by unfold aLt;infer_instance
instance:DecidableEq D0:=fun a b=>decidable_of_iff _ (A6g (a:=a) (b:=b))
instance:DecidableEq A2:=fun a b=>decidable_of_iff _ (A82 (p:=a) (q:=b))
def cmpA (a b:D0):Int:=if aLt a b then -1 else if aLt b a then 1 else 0
theorem B2z {a b:D0} (ha:aR a) (hb:aR b):nA a<nA b↔a.fHi<b.fHi∨a.fHi=b.fHi∧a.fLo<b.fLo:=by
 unfold aR at ha hb
 unfold nA
 omega
theorem B5w {a b:D0} (ha:aR a) (hb:aR b):A58 a b=some (cmpA a b):=by
 have fam:∀ x:D0,A0c x=some (if x.fV6=true then 1 else 0):=fun x=>by unfold A0c;split<;>rfl
 unfold A58
 refine L0 (fam a) (L0 (fam b) (L0 (A08 _ _) (L0 (A7b _ _) (L0 (A7b _ _) (L0 (B6b _ (by simp)) ?_)))))
 congr 1
 have e1:aLt a b↔((a.fV6=false∧b.fV6=true)∨(a.fV6=b.fV6∧(a.fHi<b.fHi∨a.fHi=b.fHi∧a.fLo<b.fLo))):=by unfold aLt;rw [B2z ha hb]
 have e2:aLt b a↔((b.fV6=false∧a.fV6=true)∨(b.fV6=a.fV6∧(b.fHi<a.fHi∨b.fHi=a.fHi∧b.fLo<a.fLo))):=by unfold aLt;rw [B2z hb ha]
 unfold cmpA
 simp only [orL,e1,e2]
 cases hva:a.fV6<;>cases hvb:b.fV6<;>simp<;>(repeat' split)<;>omega
theorem B4s {a b:D0} (ha:aR a) (hb:aR b):A2s a b=some (cmpA a b):=by
 refine Tot.eq ?_
 unfold A2s cmpA
 refine Tot.ite (fun h=>Tot.some ?_) (fun h => ?_)
 ·have e:a=b:=A6g.1 h
  subst e
  have:¬ aLt a a:=by unfold aLt;cases a.fV6<;>simp
  rw [if_neg this,if_neg this]
 ·have h:aeq a b=false:=h
  have hne:a≠b:=fun e=>by rw [show aeq a b=true from A6g.2 e] at h;cases h
  refine Tot.ite (fun h1 => ?_) (fun h1 => ?_)
  ·have h1:a.fV6≠b.fV6:=by simpa using h1
   refine Tot.ite (fun h2=>Tot.some ?_) (fun h2=>Tot.some ?_)
   ·have:a.fV6=false:=by
     cases hh:a.fV6 with
     | false=>rfl
     | true=>rw [hh,h2] at h1;exact absurd rfl h1
    rw [if_pos (.inl ⟨this,h2⟩)]
   ·have:a.fV6=true:=by
     cases hh:a.fV6 with
     | true=>rfl
     | false=>rw [hh,h2] at h1;exact absurd rfl h1
    rw [if_neg (by unfold aLt;simp [this,h2]),if_pos (.inl ⟨h2,this⟩)]
  ·have h1:a.fV6=b.fV6:=by simpa using h1
   have e1:aLt a b↔nA a<nA b:=by unfold aLt;rw [h1];cases b.fV6<;>simp
   have e2:aLt b a↔nA b<nA a:=by unfold aLt;rw [h1];cases b.fV6<;>simp
   have hne2:nA a≠nA b:=fun e=>hne (B6y ha hb h1 e)
   refine Tot.jnR (fun m:Bool=>m=true↔nA a<nA b) (fun j hj => ?_) (fun m hm=>Tot.ite (fun h2=>Tot.some ?_) (fun h2=>Tot.some ?_))
   ·refine Tot.ite (fun h2=>hj _ ?_) (fun h2=>hj _ ?_)
    ·rw [B2z ha hb];simp at h2;simp [h2]
    ·rw [B2z ha hb];simp at h2;simp;omega
   ·rw [if_pos (e1.2 (hm.1 h2))]
   ·have h3:¬ nA a<nA b:=fun e=>by rw [hm.2 e] at h2;cases h2
    rw [if_neg (fun e=>h3 (e1.1 e)),if_pos (e2.2 (by omega))]
def pLt (p q:A2):Prop:=aLt p.fAddr q.fAddr∨(¬ aLt q.fAddr p.fAddr∧p.fLen<q.fLen)
instance (p q:A2):Decidable (pLt p q):=by unfold pLt;infer_instance
def cmpP (p q:A2):Int:=if pLt p q then -1 else if pLt q p then 1 else 0
theorem B1c {a b:D0} (h:aLt a b):¬ aLt b a:=by
 unfold aLt at *
 rcases h with ⟨h1,h2⟩ | ⟨h1,h2⟩
 ·rintro(⟨h3,h4⟩ | ⟨h3,h4⟩)
  ·rw [h2] at h3;cases h3
  ·rw [h1,h2] at h3;cases h3
 ·rintro(⟨h3,h4⟩ | ⟨h3,h4⟩)
  ·rw [h1,h3] at h4;cases h4
  ·omega
theorem B5x {p q:A2} (ha:aR p.fAddr) (hb:aR q.fAddr):A2q p q=some (cmpP p q):=by
 unfold A2q
 refine L0 (B5w ha hb) (L0 (A08 _ _) (L0 (B6b _ (by simp)) ?_))
 congr 1
 unfold cmpP cmpA pLt
 simp only [orL]
 by_cases h1:aLt p.fAddr q.fAddr
 ·have:=B1c h1
  simp [h1]
 ·by_cases h2:aLt q.fAddr p.fAddr
  ·simp [h1,h2]
  ·simp only [h1,h2,if_false,ne_eq,not_true_eq_false,false_or,not_false_eq_true,true_and]
   by_cases h3:p.fLen<q.fLen
   ·simp [h3]
   ·by_cases h4:q.fLen<p.fLen
    ·simp [h3,h4]
    ·simp [h3,h4]
theorem B4t {p q:A2} (ha:aR p.fAddr) (hb:aR q.fAddr):A2t p q=some (cmpP p q):=by
 unfold A2t
 refine L0 (B4s ha hb) ?_
 unfold cmpP cmpA pLt
 by_cases h1:aLt p.fAddr q.fAddr
 ·have:=B1c h1
  simp [h1]
 ·by_cases h2:aLt q.fAddr p.fAddr
  ·simp [h1,h2]
  ·simp only [h1,h2,if_false,bne_self_eq_false,Bool.false_eq_true,false_or,not_false_eq_true,true_and]
   by_cases h3:p.fLen<q.fLen
   ·simp [h3]
   ·by_cases h4:q.fLen<p.fLen
    ·simp [h3,h4]
    ·simp [h3,h4]
theorem B30 (p q:A2):cmpP p q<0↔pLt p q:=by
 unfold cmpP
 split
 ·simp_all
 ·split<;>simp_all
-- the last address, halves
theorem A8 {S X:Type} (tb:S→Option (X⊕S)) (s:S):loop tb s=(tb s).bind fun | .inl x=>some x | .inr s'=>loop tb s':=by
 cases h:tb s with
 | none =>
  cases h':loop tb s with
  | none=>rfl
  | some x =>
   obtain⟨n,hn⟩:=A5d h'
   cases n with
   | zero=>cases hn
   | succ n=>rw [iter,h] at hn;cases hn
 | some y =>
  cases y with
  | inl x=>exact A4u h
  | inr s' =>
   show loop tb s=loop tb s'
   cases h':loop tb s' with
   | some x=>exact A6l h h'
   | none =>
    cases h2:loop tb s with
    | none=>rfl
    | some x =>
     obtain⟨n,hn⟩:=A5d h2
     cases n with
     | zero=>cases hn
     | succ n =>
      rw [iter,h] at hn
      have:loop tb s'=some x:=B09 (n:=n) hn
      rw [this] at h';cases h'
def mkD (n:Int) (x:D0) (m:Int):C8:=C8.mk 0 [B2.mk false [n]] x m (-1) (-1) [] [] []
def noD:C8:=C8.mk (-1) [] zA (-1) (-1) (-1) [] [] []
structure dOk (n:Int) (x:D0) (m:Int):Prop where
 asn:1≤n∧n≤4294967295
 next:aV x
 nz:x≠zA
 med:0≤m∧m≤4294967295
theorem B1d:T3=some noD:=rfl
theorem A6t:Y3=some noD:=rfl
theorem B2b {n:Int} (h:1≤n∧n≤4294967295):P3 [B2.mk false [n]]=some true:=by
 unfold P3
 rw [A8]
 simp only [O6]
 simp [idx,F3,jn]
 rw [A8]
 simp [T5,idx,F3,jn,Y9,h.1,h.2,show ¬ 4294967295<n by omega]
 rw [A8]
 simp [T5]
 rw [A8]
 simp [O6]
theorem B1e:P3 []=some true:=by
 unfold P3
 rw [A8]
 simp [O6]
theorem B1f {n:Int} (h:1≤n∧n≤4294967295):A17 [B2.mk false [n]]=some true:=by
 unfold A17
 rw [A8]
 simp only [U1]
 simp [idx,F3,jn]
 rw [A8]
 simp [U0,idx,F3,jn,show ¬ n<1 by omega,show ¬ 4294967295<n by omega]
 rw [A8]
 simp [U0]
 rw [A8]
 simp [U1]
theorem B0d {x:D0} (h:aV x):S2 x=some true:=by
 obtain⟨b,e,hb⟩:=A5h x h.1
 rw [e,hb.2 h]
theorem B5y {x:D0} (h:aV x):P9 x=some true:=by rw [A5z];exact B0d h
theorem A91:O7 []=some true:=by
 unfold O7 U9
 rw [A8]
 simp [P4]
theorem A92:I5 []=some true:=by
 unfold I5 Q4
 rw [A8]
 simp [M9]
theorem A93:N0 []=some true:=by
 unfold N0
 rw [A8]
 simp [Q5]
theorem B1g:Y6 []=some true:=by
 unfold Y6
 rw [A8]
 simp [Z8]
theorem B1h:M1 []=some true:=by
 unfold M1
 rw [A8]
 simp [Q0]
section
variable {n m:Int} {x:D0}
theorem A94 (h:dOk n x m):I2 (mkD n x m)=some true:=by
 unfold I2 mkD
 simp [jn,G1,B2b h.asn,B0d h.next,A91,A92,A93,show -1≤m by have:=h.med;omega,h.med.2]
theorem B1i:I2 noD=some true:=by
 have hz:aV zA:=⟨⟨by decide,by decide⟩,.inr (by decide)⟩
 unfold I2 noD
 simp [jn,G1,B1e,B0d hz,A91,A92,A93]
theorem A7c (h:dOk n x m):T0 (mkD n x m)=some true:=by
 unfold T0 mkD
 rw [A8]
 simp [A00,jn,B1f h.asn,B5y h.next,B1g,B1h,show -1≤m by have:=h.med;omega,h.med.2]
-- copies
theorem B5z:A0b (mkD n x m)=some (mkD n x m):=by
 unfold A0b mkD
 rw [A8]
 simp [V8,idx,A46,chk,LIM,F3]
 rw [A8]
 simp [V8]
 rw [A8]
 simp [A0l,A2d,A2e,chk]
theorem B6q:N1 (mkD n x m)=some (mkD n x m):=by
 unfold N1 mkD
 rw [A8]
 simp [M7,idx,chk,LIM,F3]
 rw [A8]
 simp [M7]
 rw [A8]
 simp [Q7]
-- comparisons
open Classical in
noncomputable def aD (a b:C8):Bool:=decide (a=b)
theorem A4a {a b:C8}:aD a b=true↔a=b:=by unfold aD;simp
theorem B31 (a:C8):aD a a=true:=A4a.2 rfl
theorem B6z {a b:C8} (h:a≠b):aD a b=false:=by
 rw [Bool.eq_false_iff];exact fun e=>h (A4a.1 e)
theorem eqI1 (a b:Int):A0s [a] [b]=some (a==b):=by
 unfold A0s
 rw [A8]
 by_cases h:a=b
 ·simp [O8,idx,F3,h]
  rw [A8]
  simp [O8]
 ·simp [O8,idx,F3,h]
theorem B60 {n' m':Int} {x':D0}:A0d (mkD n x m) (mkD n' x' m')=some (aD (mkD n x m) (mkD n' x' m')):=by
 unfold A0d mkD
 have e1:R1 [B2.mk false [n]] [B2.mk false [n']]=some (n==n'):=by
  unfold R1
  rw [A8]
  by_cases h:n=n'
  ·simp [J6,idx,F3,Z3,jn,eqI1,h]
   rw [A8]
   simp [J6]
  ·simp [J6,idx,F3,Z3,jn,eqI1,h]
 have e2:W5 [] []=some true:=by unfold W5;rw [A8];simp [V0]
 have e3:W6 [] []=some true:=by unfold W6;rw [A8];simp [V1]
 have e4:N8 [] []=some true:=by unfold N8;rw [A8];simp [O5]
 have ea:x=x'↔(x.fV6=x'.fV6∧x.fHi=x'.fHi∧x.fLo=x'.fLo):=by
  constructor
  ·intro e;subst e;exact⟨rfl,rfl,rfl⟩
  ·rintro⟨e1,e2,e3⟩;cases x;cases x';simp_all
 have hD:aD (mkD n x m) (mkD n' x' m')=(((decide (x=x'))&&(decide (m=m')))&&(decide (n=n'))):=by
  rw [Bool.eq_iff_iff,A4a]
  simp [mkD,and_assoc,and_comm,and_left_comm]
 have hD':=hD
 unfold mkD at hD'
 rw [hD']
 simp only [jn,e1,e2,e3,e4,Option.bind_some]
 by_cases h1:x=x'
 ·subst h1
  by_cases h2:m=m'
  ·subst h2
   by_cases h3:n=n'
   ·simp [h3]
   ·simp [h3]
  ·simp [h2]
 ·have hx:¬ (x.fV6=x'.fV6∧x.fHi=x'.fHi∧x.fLo=x'.fLo):=fun e=>h1 (ea.2 e)
  simp [h1]
  intro a b c
  exact absurd ⟨a,b,c⟩ hx
theorem sameI1 (a b:Int):T8 [a] [b]=some (a==b):=by
 unfold T8
 rw [A8]
 by_cases h:a=b
 ·simp [K8,idx,F3,h]
  rw [A8]
  simp [K8]
 ·simp [K8,idx,F3,h]
theorem B6r {n' m':Int} {x':D0}:G6 (mkD n x m) (mkD n' x' m')=some (aD (mkD n x m) (mkD n' x' m')):=by
 unfold G6
 have e0:(loop (F8 (mkD n x m) (mkD n' x' m')) 0)=some (if n=n' then .inr () else .inl ()):=by
  rw [A8]
  by_cases h:n=n'
  ·simp [F8,mkD,idx,F3,jn,sameI1,h]
   rw [A8]
   simp [F8]
  ·simp [F8,mkD,idx,F3,jn,sameI1,h]
 have e1:(loop (H5 (mkD n x m) (mkD n' x' m')) 0)=some (.inr ()):=by rw [A8];simp [H5,mkD]
 have e2:(loop (H6 (mkD n x m) (mkD n' x' m')) 0)=some (.inr ()):=by rw [A8];simp [H6,mkD]
 have e3:(loop (H7 (mkD n x m) (mkD n' x' m')) 0)=some (.inr ()):=by rw [A8];simp [H7,mkD]
 have ea:x=x'↔(x.fV6=x'.fV6∧x.fHi=x'.fHi∧x.fLo=x'.fLo):=by
  constructor
  ·intro e;subst e;exact⟨rfl,rfl,rfl⟩
  ·rintro⟨e1,e2,e3⟩;cases x;cases x';simp_all
 have hD:aD (mkD n x m) (mkD n' x' m')=(((decide (x=x'))&&(decide (m=m')))&&(decide (n=n'))):=by
  rw [Bool.eq_iff_iff,A4a]
  simp [mkD,and_assoc,and_comm,and_left_comm]
 rw [hD]
 simp only [e0,e1,e2,e3,Option.bind_some]
 by_cases h1:x=x'
 ·subst h1
  by_cases h2:m=m'
  ·subst h2
   by_cases h3:n=n'
   ·simp [h3,mkD]
   ·simp [h3,mkD]
  ·simp [h2,mkD]
 ·have hx:¬ (x.fV6=x'.fV6∧x.fHi=x'.fHi∧x.fLo=x'.fLo):=fun e=>h1 (ea.2 e)
  have hb:((x.fV6==x'.fV6)&&((x.fHi==x'.fHi)&&((x.fLo==x'.fLo)&&true)))=false:=by
   rw [Bool.eq_false_iff]
   intro e
   simp at e
   exact hx e
  simp [h1,mkD,hb]
  intro a b c
  exact absurd ⟨a,b,c⟩ hx
end
theorem B61:G6 noD noD=some true:=by
 unfold G6
 have e0:(loop (F8 noD noD) 0)=some (.inr ()):=by rw [A8];simp [F8,noD]
 have e1:(loop (H5 noD noD) 0)=some (.inr ()):=by rw [A8];simp [H5,noD]
 have e2:(loop (H6 noD noD) 0)=some (.inr ()):=by rw [A8];simp [H6,noD]
 have e3:(loop (H7 noD noD) 0)=some (.inr ()):=by rw [A8];simp [H7,noD]
 simp [e0,e1,e2,e3]
theorem B4u:A0n noD=some true:=by
 unfold A0n
 simp [B1d,noD,F3,zA]
theorem B4v:A0e noD noD=some true:=by
 unfold A0e
 have e1:A1u [] []=some true:=by unfold A1u;rw [A8];simp [A13]
 have e2:A1v [] []=some true:=by unfold A1v;rw [A8];simp [A15]
 have e3:R5 [] []=some true:=by unfold R5;rw [A8];simp [Q8]
 have e4:T9 [] []=some true:=by unfold T9;rw [A8];simp [S9]
 simp [noD,jn,e1,e2,e3,e4]
theorem A6h {x:D0} (h:aV x):Tot (S6 x) (fun b=>8*b.length=wid x.fV6):=by
 unfold S6
 refine Tot.bindOf (B0d h) ?_
 refine Tot.iteF rfl ?_
 refine Tot.jnR (fun m:Int=>∃ k:Nat,m=k∧8*k=wid x.fV6∧1≤k∧k≤16) (fun j hj => ?_) (fun m hm => ?_)
 ·refine Tot.ite (fun e=>hj _ ⟨16,rfl,by simp [wid,e],by omega,by omega⟩) (fun e=>hj _ ⟨4,rfl,by simp [wid,e],by omega,by omega⟩)
 ·obtain⟨k,rfl,hk,h1,h2⟩:=hm
  refine Tot.chk (by simp;show k≤4294967296;omega) ?_
  refine Tot.bindLoop (fun s:Int×List Int×D0=>s.2.1.length=k ∧ -1≤s.1∧s.1<k) (fun s=>(s.1+1).toNat) (fun b=>b.length=k) ⟨by simp,by rw [F3 (by omega) (by omega)];show -1≤(k:Int)-1;omega,by rw [F3 (by omega) (by omega)];show(k:Int)-1<k;omega⟩ (fun s hs => ?_) (fun b hb=>Tot.some (by rw [hb];exact hk))
  obtain⟨i,b,a⟩:=s
  obtain⟨g1,g2,g3⟩:=hs
  simp only at g1 g2 g3
  unfold A1n
  refine Tot.ite (fun e => ?_) (fun e=>Tot.out g1)
  have hi:0≤i:=by simpa using e
  refine Tot.bindIdx i.toNat (by omega) (by show i.toNat<b.length;omega) ?_
  refine Tot.bindIdx i.toNat (by omega) (by show i.toNat<b.length;omega) ?_
  have e1:w64 (i-1)=i-1:=F3 (by omega) (by omega)
  refine Tot.next ⟨by simpa using g1,?_,?_⟩ ?_
  ·show -1≤w64 (i-1);rw [e1];omega
  ·show w64 (i-1)<k;rw [e1];omega
  ·show(w64 (i-1)+1).toNat<(i+1).toNat;rw [e1];omega
theorem A6u {x:D0} (h:aV x):Tot (L3 x) (fun b=>8*b.length=wid x.fV6):=(B1b h).mono fun b hb=>hb.1
def pc (p:A2):Nat:=1+(p.fLen.toNat+7) / 8
def clen (v:Bool):List A2→Nat
 | []=>0
 | p :: l=>(if p.fAddr.fV6=v then pc p else 0)+clen v l
theorem A95 (v:Bool):∀ (l m:List A2),clen v (l++m)=clen v l+clen v m
 | [],m=>by simp [clen]
 | p :: l,m=>by simp only [List.cons_append,clen,A95 v l m];omega
theorem B6c {p:A2} (h:pV p):pc p≤17∧(p.fLen.toNat+7) / 8≤wid p.fAddr.fV6 / 8∧w64 (Int.tdiv (w64 (p.fLen+7)) 8)=(((p.fLen.toNat+7) / 8:Nat):Int):=by
 have h0:=h.len0
 have h1:=h.len1
 have hw:wid p.fAddr.fV6=32∨wid p.fAddr.fV6=128:=by unfold wid;split<;>simp
 have e1:w64 (p.fLen+7)=p.fLen+7:=F3 (by omega) (by omega)
 have e2:Int.tdiv (p.fLen+7) 8=(((p.fLen.toNat+7) / 8:Nat):Int):=by
  rw [Int.tdiv_eq_ediv_of_nonneg (by omega)]
  omega
 refine⟨by unfold pc;omega,by omega,?_⟩
 rw [e1,e2]
 exact F3 (by omega) (by omega)
theorem A1a (v:Bool):∀ (l:List A2),(∀ p∈l,pV p)→clen v l≤17*l.length
 | [],_=>by simp [clen]
 | p :: l,h=>by
  have h1:=(B6c (h p (List.mem_cons_self ..))).1
  have h2:=A1a v l fun q hq=>h q (List.mem_cons_of_mem _ hq)
  simp only [clen,List.length_cons]
  split<;>omega
theorem A96 {v:Bool}:∀ {l:List A2},clen v l=0↔∀ p∈l,p.fAddr.fV6≠v
 | []=>by simp [clen]
 | p :: l=>by
  have ih:=A96 (v:=v) (l:=l)
  simp only [clen,List.mem_cons,forall_eq_or_imp]
  rw [← ih]
  by_cases h:p.fAddr.fV6=v
  ·simp [h,pc]
  ·simp [h]
theorem A7d {f:D0→Option (List Int)} (hf:∀ x,aV x→Tot (f x) (fun b=>8*b.length=wid x.fV6)) {x:A2} (hx:pV x) {v:Bool} {b:List Int} {α:Type} {P:α→Prop} {j:List Int→Option α} {N:Nat} (hb:b.length≤N) (hN:N≤100000)
  (hj:∀ b':List Int,b'.length=b.length+(if x.fAddr.fV6=v then pc x else 0)→Tot (j b') P) :
  Tot (if (x.fAddr.fV6==v)=true then
   chk (decide ((b++([(IntKind.u8.wrap x.fLen)]:List Int)).length≤LIM)) <|
   (f x.fAddr).bind fun r42 =>
   chk ((decide (0≤(w64 (Int.tdiv (w64 (x.fLen+(7:Int))) (8:Int))))&&decide (0≤(w64 (Int.tdiv (w64 (x.fLen+(7:Int))) (8:Int))).toNat)&&decide ((w64 (Int.tdiv (w64 (x.fLen+(7:Int))) (8:Int))).toNat≤r42.length))) <|
   chk (decide (((b++([(IntKind.u8.wrap x.fLen)]:List Int))++((r42.take ((w64 (Int.tdiv (w64 (x.fLen+(7:Int))) (8:Int))).toNat)).drop 0)).length≤LIM)) <|
   j ((b++([(IntKind.u8.wrap x.fLen)]:List Int))++((r42.take ((w64 (Int.tdiv (w64 (x.fLen+(7:Int))) (8:Int))).toNat)).drop 0))
   else j b) P:=by
 obtain⟨h1,h2,h3⟩:=B6c hx
 refine Tot.ite (fun e => ?_) (fun e=>hj b (by rw [if_neg (by simpa using e)];rfl))
 have e':x.fAddr.fV6=v:=by simpa using e
 refine Tot.chk (decide_eq_true (show _≤4294967296 by simp;omega)) ?_
 refine Tot.bindT (hf _ hx.addr) fun r hr => ?_
 rw [h3]
 have hle:(p:Nat)→p=(x.fLen.toNat+7) / 8→p≤r.length:=fun p hp=>by omega
 have hk:(x.fLen.toNat+7) / 8≤r.length:=hle _ rfl
 refine Tot.chk (by rw [Bool.and_eq_true,Bool.and_eq_true];exact⟨⟨decide_eq_true (by omega),decide_eq_true (Nat.zero_le _)⟩,decide_eq_true (show((((x.fLen.toNat+7) / 8:Nat):Int)).toNat≤r.length by rw [Int.toNat_natCast];exact hk)⟩) ?_
 have hl:((b++([(IntKind.u8.wrap x.fLen)]:List Int))++((r.take ((((x.fLen.toNat+7) / 8:Nat):Int)).toNat).drop 0)).length=b.length+pc x:=by
  simp only [List.drop_zero,List.length_append,List.length_take,List.length_cons,List.length_nil,Int.toNat_natCast,pc]
  omega
 refine Tot.chk (decide_eq_true (show _≤4294967296 by rw [hl];omega)) ?_
 exact hj _ (by rw [hl,if_pos e'])
theorem A2z {l:List A2} (hl:∀ p∈l,pV p) (h256:l.length≤256) (v:Bool):Tot (H2 l v) (fun b=>b.length=clen v l):=by
 unfold H2
 refine Tot.bindRng l.length (fun k (b:List Int)=>((k:Int),b)) (fun k b=>b.length=clen v (l.take k)) (fun b=>b.length=clen v l) [] rfl (by simp [clen]) (fun k b hk hb => ?_) (fun b hb => ?_) (fun b hb=>Tot.some hb)
 ·unfold U5
  refine Tot.iteT (by simpa using hk) ?_
  refine Tot.bindIdx k rfl hk ?_
  have hx:=hl _ (List.getElem_mem hk)
  have hle:=A1a v (l.take k) fun p hp=>hl p (List.mem_of_mem_take hp)
  have hlt:(l.take k).length=k:=by simp;omega
  refine Tot.jn ?_
  refine A7d (f:=L3) (fun x=>A6u) hx (v:=v) (b:=b) (j:=fun m38=>some (Sum.inr (w64 ((k:Int)+1),m38))) (N:=17*256) (by show b.length≤_;omega) (by omega) fun b' hb' => ?_
  refine Tot.step b' (by show(w64 ((k:Int)+1),b')=_;rw [E8 hk (by omega)]) ?_
  rw [J4 hk,A95,← hb,hb']
  simp [clen]
 ·unfold U5
  refine Tot.iteF (by simp) ?_
  exact Tot.last (by rw [List.take_length] at hb;exact hb)
theorem A6v {l:List A2} (hl:∀ p∈l,pV p) (h256:l.length≤256) (v:Bool) {b0:List Int} (hb0:b0.length≤10000):Tot (S8 b0 l v) (fun b=>b.length=b0.length+clen v l):=by
 unfold S8
 refine Tot.bindRng l.length (fun k (b:List Int)=>((k:Int),b)) (fun k b=>b.length=b0.length+clen v (l.take k)) (fun b=>b.length=b0.length+clen v l) b0 rfl (by simp [clen]) (fun k b hk hb => ?_) (fun b hb => ?_) (fun b hb=>Tot.some hb)
 ·unfold T7
  refine Tot.iteT (by simpa using hk) ?_
  refine Tot.bindIdx k rfl hk ?_
  have hx:=hl _ (List.getElem_mem hk)
  have hle:=A1a v (l.take k) fun p hp=>hl p (List.mem_of_mem_take hp)
  have hlt:(l.take k).length=k:=by simp;omega
  refine Tot.jn ?_
  refine A7d (f:=S6) (fun x=>A6h) hx (v:=v) (b:=b) (j:=fun m38=>some (Sum.inr (w64 ((k:Int)+1),m38))) (N:=10000+17*256) (by show b.length≤_;omega) (by omega) fun b' hb' => ?_
  refine Tot.step b' (by show(w64 ((k:Int)+1),b')=_;rw [E8 hk (by omega)]) ?_
  rw [J4 hk,A95,← Nat.add_assoc,← hb,hb']
  simp [clen]
 ·unfold T7
  refine Tot.iteF (by simp) ?_
  exact Tot.last (by rw [List.take_length] at hb;exact hb)
theorem A60 {l:List A2} (hl:∀ p∈l,pV p) (h256:l.length≤256) (v:Bool):Tot (L7 l v) (fun b=>b.length=clen v l):=by
 have:=A6v hl h256 v (b0:=[]) (by simp)
 have e:L7 l v=S8 [] l v:=rfl
 rw [e]
 exact this.mono fun b hb=>by simpa using hb
-- joining
def hd (n:Nat):Nat:=if 255<n then 4 else 3
def jlen:List A1→Nat
 | []=>0
 | x :: l=>hd x.fData.length+x.fData.length+jlen l
theorem A20:∀ (l m:List A1),jlen (l++m)=jlen l+jlen m
 | [],m=>by simp [jlen]
 | x :: l,m=>by simp only [List.cons_append,jlen,A20 l m];omega
theorem A40 {l m:List A1} (h:l.Perm m):jlen l=jlen m:=by
 induction h with
 | nil=>rfl
 | cons x _ ih=>simp only [jlen,ih]
 | swap x y l=>simp only [jlen];omega
 | trans _ _ ih1 ih2=>exact ih1.trans ih2
structure uok (x:A1):Prop where
 flags:0≤x.fFlags∧x.fFlags≤255
 type:0≤x.fType∧x.fType≤255
 data:x.fData.length≤65535
theorem B32:∀ {l:List A1},(∀ x∈l,uok x)→jlen l≤70000*l.length
 | [],_=>by simp [jlen]
 | x :: l,h=>by
  have h1:=(h x (List.mem_cons_self ..)).data
  have h2:=B32 fun y hy=>h y (List.mem_cons_of_mem _ hy)
  simp only [jlen,List.length_cons,hd]
  split<;>omega
theorem B4w {l:List A1} (h:∀ x∈l,uok x) (hl:l.length≤100):Tot (W4 l) (fun r=>(r.2=0↔jlen l≤2048)∧(jlen l≤2048→r.1.length=jlen l)∧r.1.length≤2048):=by
 unfold W4
 refine Tot.bindRng l.length (fun k (_:Unit)=>(k:Int)) (fun k _=>True) (fun x=>x = .inr ()) () rfl trivial (fun k b hk _ => ?_) (fun b _ => ?_) (fun x hx => ?_)
 ·unfold P6
  refine Tot.iteT (by simpa using hk) ?_
  refine Tot.bindIdx k rfl hk ?_
  have hu:=h _ (List.getElem_mem hk)
  refine Tot.jnR (fun m=>m=false) (fun j hj => ?_) (fun m hm => ?_)
  ·simp only [G1,Option.bind_some,decide_eq_true hu.flags.1,decide_eq_true hu.flags.2,decide_eq_true hu.type.1,decide_eq_true hu.type.2,Bool.and_self,Bool.not_true]
   refine Tot.iteF rfl ?_
   refine hj _ ?_
   simp only [Bool.false_or]
   rw [decide_eq_false]
   have:=hu.data
   omega
  ·subst hm
   refine Tot.iteF rfl ?_
   exact Tot.step () (E8 hk (by omega)) trivial
 ·unfold P6
  refine Tot.iteF (by simp) ?_
  exact Tot.last rfl
 ·subst hx
  simp only
  refine Tot.bindRng l.length (fun k (b:List Int)=>((k:Int),b)) (fun k b=>b.length=jlen (l.take k)∧b.length≤2048) (fun x=>(x = .inl ()∧2048<jlen l)∨∃ b,x = .inr b∧b.length=jlen l∧jlen l≤2048) [] rfl (by simp [jlen]) (fun k b hk hb => ?_) (fun b hb => ?_) (fun x hx => ?_)
  ·unfold P7
   refine Tot.iteT (by simpa using hk) ?_
   refine Tot.bindIdx k rfl hk ?_
   have hu:=h _ (List.getElem_mem hk)
   have hd':=hu.data
   refine Tot.jnR (fun m:List Int=>m.length=b.length+hd l[k].fData.length) (fun j hj => ?_) (fun m hm => ?_)
   ·refine Tot.ite (fun e => ?_) (fun e => ?_)
    ·have e':255<l[k].fData.length:=by have:=of_decide_eq_true e;omega
     refine Tot.chk (decide_eq_true (show _≤4294967296 by simp;omega)) (hj _ ?_)
     simp [hd,e']
    ·have e':¬ 255<l[k].fData.length:=by have:=of_decide_eq_false e;omega
     refine Tot.chk (decide_eq_true (show _≤4294967296 by simp;omega)) (hj _ ?_)
     simp [hd,e']
   ·have hlen:(m++l[k].fData).length=jlen (l.take (k+1)):=by
     rw [J4 hk,A20,← hb.1,List.length_append,hm]
     simp [jlen];omega
    have hh:hd l[k].fData.length≤4:=by unfold hd;split<;>omega
    refine Tot.chk (decide_eq_true (show _≤4294967296 by rw [List.length_append];omega)) ?_
    refine Tot.ite (fun e => ?_) (fun e => ?_)
    ·refine Tot.stop (.inl ⟨rfl,?_⟩)
     have e':2048<(m++l[k].fData).length:=by have:=of_decide_eq_true e;omega
     rw [hlen] at e'
     have:jlen l=jlen (l.take (k+1))+jlen (l.drop (k+1)):=by rw [← A20,List.take_append_drop]
     omega
    ·have e':¬ 2048<(m++l[k].fData).length:=by have:=of_decide_eq_false e;omega
     refine Tot.step _ (by show(w64 ((k:Int)+1),_)=_;rw [E8 hk (by omega)]) ⟨hlen,by omega⟩
  ·unfold P7
   refine Tot.iteF (by simp) ?_
   rw [List.take_length] at hb
   exact Tot.last (.inr ⟨b,rfl,hb.1,by omega⟩)
  ·rcases hx with ⟨rfl,hx⟩ | ⟨b,rfl,h1,h2⟩
   ·refine Tot.some ⟨⟨fun e=>by simp at e,fun e=>by omega⟩,fun e=>by omega,by simp⟩
   ·refine Tot.some ⟨⟨fun _=>h2,fun _=>rfl⟩,fun _=>h1,by show b.length≤2048;omega⟩
theorem B3x {l:List A1} (h:∀ x∈l,uok x) (hl:l.length≤100):Tot (A0f l) (fun r=>(r.2=0↔jlen l≤2048)∧(jlen l≤2048→r.1.length=jlen l)):=by
 unfold A0f
 refine Tot.bindRng l.length (fun k (_:Unit)=>(k:Int)) (fun k _=>True) (fun x=>x = .inr ()) () rfl trivial (fun k b hk _ => ?_) (fun b _ => ?_) (fun x hx => ?_)
 ·unfold X0
  refine Tot.iteT (by simpa using hk) ?_
  refine Tot.bindIdx k rfl hk ?_
  have hu:=h _ (List.getElem_mem hk)
  refine Tot.iteF ?_ ?_
  ·have h1:=hu.flags;have h2:=hu.type;have h3:=hu.data
   simp only [Bool.or_eq_false_iff,decide_eq_false_iff_not]
   omega
  ·exact Tot.step () (E8 hk (by omega)) trivial
 ·unfold X0
  refine Tot.iteF (by simp) ?_
  exact Tot.last rfl
 ·subst hx
  simp only
  refine Tot.bindRng l.length (fun k (b:List Int)=>((k:Int),b)) (fun k b=>b.length=jlen (l.take k)) (fun b=>b.length=jlen l) [] rfl (by simp [jlen]) (fun k b hk hb => ?_) (fun b hb => ?_) (fun b hb => ?_)
  ·unfold X1
   refine Tot.iteT (by simpa using hk) ?_
   refine Tot.bindIdx k rfl hk ?_
   have hu:=h _ (List.getElem_mem hk)
   have hd':=hu.data
   have hbl:b.length≤7000000:=by
    have h1:=B32 (l:=l.take k) fun y hy=>h y (List.mem_of_mem_take hy)
    have h2:(l.take k).length≤100:=by simp;omega
    omega
   refine Tot.jnR (fun m:List Int=>m.length=b.length+hd l[k].fData.length) (fun j hj => ?_) (fun m hm => ?_)
   ·refine Tot.ite (fun e => ?_) (fun e => ?_)
    ·have e':255<l[k].fData.length:=by have:=of_decide_eq_true e;omega
     refine Tot.chk (decide_eq_true (show _≤4294967296 by simp;omega)) (hj _ ?_)
     simp [hd,e']
    ·have e':¬ 255<l[k].fData.length:=by have:=of_decide_eq_false e;omega
     refine Tot.chk (decide_eq_true (show _≤4294967296 by simp;omega)) (hj _ ?_)
     simp [hd,e']
   ·have hlen:(m++l[k].fData).length=jlen (l.take (k+1)):=by
     rw [J4 hk,A20,← hb,List.length_append,hm]
     simp [jlen];omega
    have hh:hd l[k].fData.length≤4:=by unfold hd;split<;>omega
    refine Tot.chk (decide_eq_true (show _≤4294967296 by rw [List.length_append];omega)) ?_
    refine Tot.step _ (by show(w64 ((k:Int)+1),_)=_;rw [E8 hk (by omega)]) hlen
  ·unfold X1
   refine Tot.iteF (by simp) ?_
   rw [List.take_length] at hb
   exact Tot.last hb
  ·refine Tot.ite (fun e => ?_) (fun e => ?_)
   ·have e':2048<b.length:=by have:=of_decide_eq_true e;omega
    exact Tot.some ⟨⟨fun e=>by simp at e,fun e=>by omega⟩,fun e=>by omega⟩
   ·have e':¬ 2048<b.length:=by have:=of_decide_eq_false e;omega
    exact Tot.some ⟨⟨fun _=>by omega,fun _=>rfl⟩,fun _=>hb⟩
theorem sortU {cmp:A1→A1→Option Int} (hc:∀ x y,cmp x y=H8 x.fType y.fType) {l:List A1} (hl:l.length≤100):Tot (sortF l cmp) (fun r=>r.Perm l):=by
 obtain⟨r,h1,h2,_⟩:=B3n (xs:=l) (cmp:=cmp) (fun x y=>if x.fType<y.fType then -1 else if y.fType<x.fType then 1 else 0) (fun x _ y _=>by rw [hc,A08])
  (fun x _=>by simp) (fun x _ y _ z _ h1 h2=>by
   repeat' split at h1
   all_goals repeat' split at h2
   all_goals repeat' split
   all_goals omega) (fun x _ y _ z _ h1 h2=>by
   repeat' split at h1
   all_goals repeat' split at h2
   all_goals repeat' split
   all_goals omega) (by omega)
 exact⟨r,h1,h2⟩
theorem uk {t:Int} {d:List Int} (h1:0≤ilk gv0 t∧ilk gv0 t≤255) (h2:0≤t∧t≤255) (h3:d.length≤65535):uok (A1.mk (ilk gv0 t) t d):=⟨h1,h2,h3⟩
theorem B4x {t:Int} {d:List Int}:H9 true t d=some [A1.mk (ilk gv0 t) t d]:=by
 unfold H9
 simp [jn,chk,LIM]
theorem B4y {t:Int} {d:List Int}:H9 false t d=some []:=rfl
theorem B0e {t:Int} {d:List Int} {l:List A1} (hl:l.length≤100):C5 true t d l=some (l++[A1.mk (ilk gv0 t) t d]):=by
 unfold C5
 have:l.length+1≤LIM:=by show _≤4294967296;omega
 simp [jn,chk,this]
theorem A1b {t:Int} {d:List Int} {l:List A1}:C5 false t d l=some l:=rfl
theorem put1 (v:Int):Tot (M3 [v]) (fun b=>b.length=4):=by
 unfold M3
 rw [A8]
 simp only [N7]
 simp [idx,F3,chk,LIM]
 rw [A8]
 simp [N7]
 exact⟨_,rfl,rfl⟩
theorem path1 (n:Int):Tot (N6 [B2.mk false [n]]) (fun b=>b.length=6):=by
 unfold N6
 rw [A8]
 have h:∀ b:List Int,b.length=2→Tot (M2 b [n]) (fun c=>c.length=6):=fun b hb=>by
  unfold M2
  rw [A8]
  simp only [N5]
  simp [idx,F3,chk,LIM,hb]
  rw [A8]
  simp [N5]
  exact⟨_,rfl,by simp [hb]⟩
 obtain⟨c,e,hc⟩:=h [2,IntKind.u8.wrap 1] rfl
 simp [M0,idx,F3,chk,LIM,jn,e]
 rw [A8]
 simp [M0]
 exact⟨_,rfl,hc⟩
theorem path0:N6 []=some []:=by unfold N6;rw [A8];simp [M0]
theorem com0:K2 []=some []:=by unfold K2;rw [A8];simp [L1]
theorem lar0:T6 []=some []:=by unfold T6;rw [A8];simp [S7]
def alen (x:D0):Nat:=20+(if x.fV6=true then 0 else 7)
section
variable {n m:Int} {x:D0}
theorem nz_b (h:x≠zA):((x.fV6==false)&&((x.fHi==0)&&((x.fLo==0)&&true)))=false:=by
 rw [Bool.eq_false_iff]
 intro e
 simp at e
 exact h (by cases x;simp_all [zA])
theorem B3y (h:dOk n x m):Tot (J0 (mkD n x m)) (fun r=>(∀ y∈r.1,uok y)∧r.1.length≤4∧jlen r.1=alen x):=by
 unfold J0
 refine Tot.bindOf (A94 h) ?_
 refine Tot.iteF rfl ?_
 refine Tot.bindOf (show H9 ((mkD n x m).fOrigin != -1) 1 _=_ from B4x) ?_
 refine Tot.bindT (path1 n) fun b2 h2 => ?_
 refine Tot.bindOf (show C5 (((mkD n x m).fOrigin != -1) || _) 2 b2 _=_ from B0e (by simp)) ?_
 refine Tot.bindT (A6h h.next) fun b3 h3 => ?_
 have key:∃ l:List A1,C5 ((!(mkD n x m).fNext.fV6)&&(!(((mkD n x m).fNext.fV6==false)&&(((mkD n x m).fNext.fHi==(0:Int))&&(((mkD n x m).fNext.fLo==(0:Int))&&true))))) 3 b3 ([A1.mk (ilk gv0 1) 1 [IntKind.u8.wrap (mkD n x m).fOrigin]]++[A1.mk (ilk gv0 2) 2 b2])=some l ∧
   (∀ y∈l,uok y)∧l.length≤3∧jlen l=13+(if x.fV6=true then 0 else 7):=by
  have e1:uok (A1.mk (ilk gv0 1) 1 [IntKind.u8.wrap (mkD n x m).fOrigin]):=uk (by decide) (by decide) (by simp)
  have e2:uok (A1.mk (ilk gv0 2) 2 b2):=uk (by decide) (by decide) (by simp [h2])
  show ∃ l:List A1,C5 ((!x.fV6)&&(!((x.fV6==false)&&((x.fHi==0)&&((x.fLo==0)&&true))))) 3 b3 _=some l∧_
  rw [nz_b h.nz]
  cases hv:x.fV6 with
  | true =>
   refine⟨_,rfl,?_,by simp,?_⟩
   ·intro y hy
    simp at hy
    rcases hy with rfl | rfl
    ·exact e1
    ·exact e2
   ·simp [jlen,hd,h2]
  | false =>
   have h3':8*b3.length=wid x.fV6:=h3
   have hb:b3.length=4:=by rw [hv] at h3';simp [wid] at h3';omega
   have e3:uok (A1.mk (ilk gv0 3) 3 b3):=uk (by decide) (by decide) (by simp [hb])
   refine⟨_,B0e (by simp),?_,by simp,?_⟩
   ·intro y hy
    simp at hy
    rcases hy with rfl | rfl | rfl
    ·exact e1
    ·exact e2
    ·exact e3
   ·simp [jlen,hd,h2,hb]
 obtain⟨l,hl1,hl2,hl3,hl4⟩:=key
 refine Tot.bindOf hl1 ?_
 refine Tot.bindT (put1 _) fun b4 h4 => ?_
 refine Tot.bindOf (show C5 (m != -1) 4 b4 l=some (l++[A1.mk (ilk gv0 4) 4 b4]) by
  have:(m != -1)=true:=by have:=h.med;simp;omega
  rw [this];exact B0e (by omega)) ?_
 refine Tot.bindT (put1 _) fun b5 _ => ?_
 refine Tot.bindOf (show C5 ((mkD n x m).fPref != -1) 5 b5 _=_ from A1b) ?_
 refine Tot.bindOf com0 ?_
 refine Tot.bindOf (show C5 (decide ((0:Int)<((mkD n x m).fCommunities.length:Int))) 8 [] _=_ from A1b) ?_
 refine Tot.bindOf lar0 ?_
 refine Tot.bindOf (show C5 (decide ((0:Int)<((mkD n x m).fLarge.length:Int))) 32 [] _=_ from A1b) ?_
 refine Tot.bindT (put1 _) fun b6 _ => ?_
 refine Tot.bindOf (show C5 ((mkD n x m).fOTC != -1) 35 b6 _=_ from A1b) ?_
 refine Tot.bindOf (x:=l++[A1.mk (ilk gv0 4) 4 b4]) (by rw [A8];simp [L6,mkD]) ?_
 refine Tot.bindT (sortU (cmp:=fun x y=>I0 x y) (fun x y=>by unfold I0;rw [A08];rfl) (by simp;omega)) fun r hr => ?_
 refine Tot.chk (decide_eq_true hr.length_eq) ?_
 have e4:uok (A1.mk (ilk gv0 4) 4 b4):=uk (by decide) (by decide) (by simp [h4])
 refine Tot.some ⟨fun y hy => ?_,?_,?_⟩
 ·have:=hr.mem_iff.1 hy
  simp at this
  rcases this with this | rfl
  ·exact hl2 y this
  ·exact e4
 ·rw [hr.length_eq];simp;omega
 ·rw [A40 hr,A20,hl4]
  simp [jlen,hd,h4,alen]
  omega
theorem B4z:Tot (J0 noD) (fun r=>r.1=[]):=by
 have hz:aV zA:=⟨⟨by decide,by decide⟩,.inr (by decide)⟩
 unfold J0
 refine Tot.bindOf B1i ?_
 refine Tot.iteF rfl ?_
 refine Tot.bindOf (show H9 (noD.fOrigin != -1) 1 _=_ from B4y) ?_
 refine Tot.bindOf path0 ?_
 refine Tot.bindOf (show C5 ((noD.fOrigin != -1) || decide ((0:Int)<(noD.fPath.length:Int))) 2 [] _=_ from A1b) ?_
 refine Tot.bindT (A6h (show aV noD.fNext from hz)) fun b3 h3 => ?_
 refine Tot.bindOf (show C5 ((!noD.fNext.fV6)&&(!((noD.fNext.fV6==false)&&((noD.fNext.fHi==(0:Int))&&((noD.fNext.fLo==(0:Int))&&true))))) 3 b3 _=_ from A1b) ?_
 refine Tot.bindT (put1 _) fun b4 h4 => ?_
 refine Tot.bindOf (show C5 (noD.fMED != -1) 4 b4 _=_ from A1b) ?_
 refine Tot.bindT (put1 _) fun b5 _ => ?_
 refine Tot.bindOf (show C5 (noD.fPref != -1) 5 b5 _=_ from A1b) ?_
 refine Tot.bindOf com0 ?_
 refine Tot.bindOf (show C5 (decide ((0:Int)<(noD.fCommunities.length:Int))) 8 [] _=_ from A1b) ?_
 refine Tot.bindOf lar0 ?_
 refine Tot.bindOf (show C5 (decide ((0:Int)<(noD.fLarge.length:Int))) 32 [] _=_ from A1b) ?_
 refine Tot.bindT (put1 _) fun b6 _ => ?_
 refine Tot.bindOf (show C5 (noD.fOTC != -1) 35 b6 _=_ from A1b) ?_
 refine Tot.bindOf (x:=([]:List A1)) (by rw [A8];simp [L6,noD]) ?_
 refine Tot.bindT (sortU (cmp:=fun x y=>I0 x y) (fun x y=>by unfold I0;rw [A08];rfl) (by simp)) fun r hr => ?_
 refine Tot.chk (decide_eq_true hr.length_eq) ?_
 exact Tot.some hr.eq_nil
end
end Go.Proofs.YtkhjkjojjdkidaaGreatDoor
