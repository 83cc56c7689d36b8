/- Prefixes in plain Lean: words, bytes, bits, orders and what covers what. -/
import Derived.Test.YtgfoabcickjphaaGreatDoorFns
import Derived.Test.YtgfoabcickjphaaGreatDoorVcO
import Derived.Test.YtgfoabcickjphaaGreatDoorVcQ
namespace Go.Proofs.YtgfoabcickjphaaGreatDoor
open Go Go.Vc
abbrev I64 (x:Int):Prop:=IntKind.i64.min≤x∧x≤IntKind.i64.max
theorem u64_nat {n:Nat} (h:n<18446744073709551616):IntKind.u64.wrap (n:Int)=n:=by
 rw [IntKind.wrap_u64];omega
theorem u64_wrapN (n:Nat):IntKind.u64.wrap (n:Int)=((n % 18446744073709551616:Nat):Int):=by
 rw [IntKind.wrap_u64];omega
theorem u8_wrap (n:Int):IntKind.u8.wrap n=n % 256:=by simp [IntKind.wrap,IntKind.bits,IntKind.signed]
theorem or_nat {a b:Nat} (ha:a<18446744073709551616) (hb:b<18446744073709551616):bitI .or .u64 (a:Int) (b:Int)=((a ||| b:Nat):Int):=by
 show IntKind.u64.wrap ((BitVec.ofInt 64 (a:Int) ||| BitVec.ofInt 64 (b:Int)).toNat:Int)=_
 have e:(BitVec.ofInt 64 (a:Int) ||| BitVec.ofInt 64 (b:Int)).toNat=a ||| b:=by
  rw [BitVec.toNat_or,BitVec.ofInt_natCast,BitVec.toNat_ofNat,BitVec.ofInt_natCast,BitVec.toNat_ofNat,Nat.mod_eq_of_lt (show a<2 ^ 64 from ha),Nat.mod_eq_of_lt (show b<2 ^ 64 from hb)]
 rw [e,u64_nat (Nat.or_lt_two_pow (n:=64) ha hb)]
theorem shr_nat (n k:Nat) (hk:k≤64):shrI .u64 (n:Int) (k:Int)=((n / 2 ^ k:Nat):Int):=by
 show(n:Int).fdiv (2 ^ (min (k:Int).toNat IntKind.u64.bits))=_
 rw [show(min (k:Int).toNat IntKind.u64.bits)=k from by show min k 64=k;omega,Int.fdiv_eq_ediv_of_nonneg _ (Int.le_of_lt (Int.pow_pos (by decide)))]
 have:((2:Int) ^ k)=((2 ^ k:Nat):Int):=by rw [Int.natCast_pow];rfl
 rw [this]
 rfl
theorem shl_nat (n k:Nat) (hk:k≤64):shlI .u64 (n:Int) (k:Int)=((n*2 ^ k % 18446744073709551616:Nat):Int):=by
 show IntKind.u64.wrap ((n:Int)*2 ^ (min (k:Int).toNat IntKind.u64.bits))=_
 rw [show(min (k:Int).toNat IntKind.u64.bits)=k from by show min k 64=k;omega]
 have:(n:Int)*(2:Int) ^ k=((n*2 ^ k:Nat):Int):=by rw [Int.natCast_mul,Int.natCast_pow];rfl
 rw [this,u64_wrapN]
def cut (n k:Nat):Nat:=n / 2 ^ k*2 ^ k
theorem cut_bit (n k i:Nat):(cut n k).testBit i=(decide (k≤i)&&n.testBit i):=by
 unfold cut
 rw [Nat.testBit_mul_two_pow]
 by_cases h:k≤i
 ·rw [decide_eq_true (show i≥k from h),Nat.testBit_div_two_pow,show i-k+k=i from by omega]
 ·rw [decide_eq_false (show ¬ i≥k from h)];simp
theorem cut_le (n k:Nat):cut n k≤n:=Nat.div_mul_le_self n (2 ^ k)
theorem cut_cut (n:Nat) {j k:Nat} (h:j≤k):cut (cut n j) k=cut n k:=by
 refine Nat.eq_of_testBit_eq fun i => ?_
 rw [cut_bit,cut_bit,cut_bit]
 by_cases h1:k≤i
 ·rw [decide_eq_true h1,decide_eq_true (Nat.le_trans h h1)];simp
 ·rw [decide_eq_false h1];simp
theorem andNot_nat {a k:Nat} (ha:a<18446744073709551616) (hk:k≤64):bitI .andNot .u64 (a:Int) ((2 ^ k-1:Nat):Int)=((cut a k:Nat):Int):=by
 have hp:2 ^ k≤2 ^ 64:=Nat.pow_le_pow_right (by decide) hk
 have hk0:0<2 ^ k:=Nat.pow_pos (by decide)
 have e:(BitVec.ofInt 64 (a:Int) &&& ~~~(BitVec.ofInt 64 ((2 ^ k-1:Nat):Int))).toNat=cut a k:=by
  refine Nat.eq_of_testBit_eq fun i => ?_
  rw [BitVec.testBit_toNat,BitVec.getLsbD_and,BitVec.getLsbD_not,BitVec.ofInt_natCast,BitVec.ofInt_natCast,BitVec.getLsbD_ofNat,BitVec.getLsbD_ofNat,cut_bit,Nat.testBit_two_pow_sub_one]
  by_cases h1:i<64
  ·by_cases h2:k≤i
   ·rw [decide_eq_true h1,decide_eq_true h2,decide_eq_false (show ¬ i<k by omega)];simp
   ·rw [decide_eq_true h1,decide_eq_false h2,decide_eq_true (show i<k by omega)];simp
  ·rw [decide_eq_false h1]
   have:a.testBit i=false:=Nat.testBit_lt_two_pow (Nat.lt_of_lt_of_le (show a<2 ^ 64 from ha) (Nat.pow_le_pow_right (by decide) (by omega)))
   rw [this];simp
 show IntKind.u64.wrap ((BitVec.ofInt 64 (a:Int) &&& ~~~(BitVec.ofInt 64 ((2 ^ k-1:Nat):Int))).toNat:Int)=_
 rw [e,u64_nat (Nat.lt_of_le_of_lt (cut_le a k) ha)]
-- numbers of addresses
def nA (a:aAddr):Nat:=a.fHi.toNat*18446744073709551616+a.fLo.toNat
def aR (a:aAddr):Prop:=(0≤a.fHi∧a.fHi<18446744073709551616)∧(0≤a.fLo∧a.fLo<18446744073709551616)
def mkA (v6:Bool) (n:Nat):aAddr:=aAddr.mk v6 ((n / 18446744073709551616:Nat):Int) ((n % 18446744073709551616:Nat):Int)
def wid (v6:Bool):Nat:=if v6=true then 128 else 32
theorem mkA_nA {a:aAddr} (h:aR a):mkA a.fV6 (nA a)=a:=by
 obtain⟨v,hi,lo⟩:=a
 obtain⟨⟨h1,h2⟩,h3,h4⟩:=h
 simp only at h1 h2 h3 h4
 have e1:((nA ⟨v,hi,lo⟩ / 18446744073709551616:Nat):Int)=hi:=by unfold nA;simp only;omega
 have e2:((nA ⟨v,hi,lo⟩ % 18446744073709551616:Nat):Int)=lo:=by unfold nA;simp only;omega
 unfold mkA
 rw [e1,e2]
theorem nA_mkA (v:Bool) (n:Nat):nA (mkA v n)=n:=by
 unfold nA mkA
 simp only [Int.toNat_natCast]
 exact Nat.div_add_mod' n 18446744073709551616
theorem mkA_v6 (v:Bool) (n:Nat):(mkA v n).fV6=v:=rfl
theorem mkA_R (v:Bool) {n:Nat} (h:n<340282366920938463463374607431768211456):aR (mkA v n):=by
 unfold aR mkA
 simp only
 omega
def aV (a:aAddr):Prop:=aR a∧(a.fV6=true∨(a.fHi=0∧a.fLo<4294967296))
theorem aV_lt {a:aAddr} (h:aV a):nA a<2 ^ wid a.fV6:=by
 obtain⟨v,hi,lo⟩:=a
 obtain⟨⟨⟨h1,h2⟩,h3,h4⟩,h5⟩:=h
 simp only at h1 h2 h3 h4 h5
 unfold nA wid
 simp only
 cases v with
 | true =>
  rw [if_pos rfl,show(2:Nat) ^ 128=340282366920938463463374607431768211456 from by decide];omega
 | false =>
  rw [if_neg (by simp),show(2:Nat) ^ 32=4294967296 from by decide]
  rcases h5 with h5 | h5
  ·cases h5
  ·omega
theorem wid_le (v:Bool):wid v≤128:=by unfold wid;split<;>omega
theorem wid_pos (v:Bool):32≤wid v:=by unfold wid;split<;>omega
theorem two_le (v:Bool):2 ^ wid v≤340282366920938463463374607431768211456:=by
 have:(340282366920938463463374607431768211456:Nat)=2 ^ 128:=by decide
 rw [this]
 exact Nat.pow_le_pow_right (by decide) (wid_le v)
theorem mkA_V {v:Bool} {n:Nat} (h:n<2 ^ wid v):aV (mkA v n):=by
 refine⟨mkA_R v (Nat.lt_of_lt_of_le h (two_le v)),?_⟩
 cases v with
 | true=>exact .inl rfl
 | false =>
  right
  have e:(2:Nat) ^ wid false=4294967296:=by decide
  rw [e] at h
  unfold mkA
  simp only
  omega
theorem aV_eq {a b:aAddr} (ha:aR a) (hb:aR b) (h1:a.fV6=b.fV6) (h2:nA a=nA b):a=b:=by
 rw [← mkA_nA ha,← mkA_nA hb,h1,h2]
-- the code's words
theorem width_eq (a:aAddr):prefix_width a=some ((wid a.fV6:Nat):Int):=by
 unfold prefix_width wid
 cases a.fV6<;>rfl
theorem avalid_eq (a:aAddr) (h:aR a):Tot (addr_Valid a) (fun b=>b=true↔aV a):=by
 unfold addr_Valid
 obtain⟨⟨h1,h2⟩,h3,h4⟩:=h
 refine Tot.jn (Tot.ite (fun h=>Tot.some ⟨fun _=>⟨⟨⟨h1,h2⟩,h3,h4⟩,.inl h⟩,fun _=>rfl⟩) (fun h=>Tot.some ⟨fun e => ?_,fun e => ?_⟩))
 ·simp only [Bool.and_eq_true,beq_iff_eq,decide_eq_true_eq] at e
  exact⟨⟨⟨h1,h2⟩,h3,h4⟩,.inr e⟩
 ·rcases e.2 with e | e
  ·rw [h] at e;cases e
  ·simp [e]
theorem ravalid_eq (a:aAddr):xref01_Valid a=addr_Valid a:=rfl
theorem masks_eq {k:Nat} (hk:k≤128):prefix_masks (k:Int)=some (((2 ^ (k-64)-1:Nat):Int),((2 ^ (min k 64)-1:Nat):Int)):=by
 unfold prefix_masks
 by_cases h:64<k
 ·refine ite_of_t (by simp;omega) ?_
  have e1:w64 ((k:Int)-64)=((k-64:Nat):Int):=by rw [w64_id (by omega) (by omega)];omega
  have e2:(1:Int)=((1:Nat):Int):=rfl
  rw [e1,u64_nat (by omega),e2,shl_nat 1 (k-64) (by omega),Nat.one_mul]
  have hp:2 ^ (k-64)≤2 ^ 64:=Nat.pow_le_pow_right (by decide) (by omega)
  have h0:0<2 ^ (k-64):=Nat.pow_pos (by decide)
  have e64:(2:Nat) ^ 64=18446744073709551616:=by decide
  rw [Nat.min_eq_right (by omega)]
  congr 1
  refine Prod.ext ?_ rfl
  simp only
  rw [IntKind.wrap_u64]
  omega
 ·refine ite_of_f (by simp;omega) ?_
  have e2:(1:Int)=((1:Nat):Int):=rfl
  rw [u64_nat (by omega),e2,shl_nat 1 k (by omega),Nat.one_mul,show k-64=0 from by omega,Nat.min_eq_left (by omega)]
  have hp:2 ^ k≤2 ^ 64:=Nat.pow_le_pow_right (by decide) (by omega)
  have h0:0<2 ^ k:=Nat.pow_pos (by decide)
  have e64:(2:Nat) ^ 64=18446744073709551616:=by decide
  congr 1
  refine Prod.ext rfl ?_
  simp only
  rw [IntKind.wrap_u64]
  omega
theorem cut_words (hi lo k:Nat) (hlo:lo<18446744073709551616) (hk:k≤128):cut (hi*18446744073709551616+lo) k=cut hi (k-64)*18446744073709551616+cut lo (min k 64):=by
 have e64:(18446744073709551616:Nat)=2 ^ 64:=by decide
 rw [e64] at hlo ⊢
 refine Nat.eq_of_testBit_eq fun i => ?_
 have hl:cut lo (min k 64)<2 ^ 64:=Nat.lt_of_le_of_lt (cut_le _ _) hlo
 rw [cut_bit,Nat.mul_comm,Nat.testBit_two_pow_mul_add _ hlo,Nat.mul_comm (cut hi (k-64)),Nat.testBit_two_pow_mul_add _ hl,cut_bit,cut_bit]
 by_cases h1:i<64
 ·rw [if_pos h1,if_pos h1]
  by_cases h2:k≤i
  ·rw [decide_eq_true h2,decide_eq_true (show min k 64≤i by omega)]
  ·rw [decide_eq_false h2,decide_eq_false (show ¬ min k 64≤i by omega)]
 ·rw [if_neg h1,if_neg h1]
  by_cases h2:k≤i
  ·rw [decide_eq_true h2,decide_eq_true (show k-64≤i-64 by omega)]
  ·rw [decide_eq_false h2,decide_eq_false (show ¬ k-64≤i-64 by omega)]
theorem first_eq {a:aAddr} (ha:aR a) {n:Nat} (hn:n≤wid a.fV6):prefix_first a (n:Int)=some (mkA a.fV6 (cut (nA a) (wid a.fV6-n))):=by
 obtain⟨v,hi,lo⟩:=a
 obtain⟨⟨h1,h2⟩,h3,h4⟩:=ha
 simp only at h1 h2 h3 h4 hn ⊢
 obtain⟨H,rfl⟩:∃ H:Nat,hi=H:=⟨hi.toNat,by omega⟩
 obtain⟨L,rfl⟩:∃ L:Nat,lo=L:=⟨lo.toNat,by omega⟩
 have hw:=wid_le v
 unfold prefix_first
 refine bind_of (width_eq _) ?_
 simp only
 have e:w64 (((wid v:Nat):Int)-(n:Int))=((wid v-n:Nat):Int):=by rw [w64_id (by omega) (by omega)];omega
 rw [e]
 refine bind_of (masks_eq (by omega)) ?_
 simp only
 rw [andNot_nat (by omega) (by omega),andNot_nat (by omega) (by omega)]
 have hn':nA ⟨v,(H:Int),(L:Int)⟩=H*18446744073709551616+L:=by unfold nA;simp
 rw [hn',cut_words H L _ (by omega) (by omega)]
 have hl:=cut_le L (min (wid v-n) 64)
 congr 1
 unfold mkA
 generalize cut H (wid v-n-64)=X
 generalize cut L (min (wid v-n) 64)=Y at hl
 congr 1
 ·omega
 ·omega
theorem snoc_ind {α:Type} {Q:List α→Prop} (h0:Q []) (h1:∀ b x,Q b→Q (b++[x])):∀ b,Q b:=fun b=>by
 rw [← List.reverse_reverse b]
 induction b.reverse with
 | nil=>exact h0
 | cons x l ih=>rw [List.reverse_cons];exact h1 _ _ ih
theorem lt8 {n:Nat} (h:n<256):n<2 ^ 8:=h
def byte (x:Int):Prop:=0≤x∧x<256
def VB (b:List Int):Nat:=b.foldl (fun v x=>v*256+x.toNat) 0
theorem VB_snoc (b:List Int) (x:Int):VB (b++[x])=VB b*256+x.toNat:=by unfold VB;rw [List.foldl_append];rfl
theorem VB_lt {b:List Int}:(∀ x∈b,byte x)→VB b<2 ^ (8*b.length):=by
 refine snoc_ind (Q:=fun b=>(∀ x∈b,byte x)→VB b<2 ^ (8*b.length)) ?_ ?_ b
 ·intro _;decide
 ·intro b x ih h
  have h1:=ih fun y hy=>h y (List.mem_append_left _ hy)
  have h2:=h x (List.mem_append_right _ (List.mem_singleton.2 rfl))
  unfold byte at h2
  rw [VB_snoc,List.length_append,List.length_singleton,Nat.mul_add,Nat.pow_add]
  have:2 ^ (8*1)=256:=by decide
  rw [this]
  omega
def bt (b:List Int) (j:Nat):Bool:=(b.getD (j / 8) 0).toNat.testBit (7-j % 8)
theorem VB_bit {b:List Int}:(∀ x∈b,byte x)→∀ {j:Nat},j<8*b.length→(VB b).testBit (8*b.length-1-j)=bt b j:=by
 refine snoc_ind (Q:=fun b=>(∀ x∈b,byte x)→∀ {j:Nat},j<8*b.length→(VB b).testBit (8*b.length-1-j)=bt b j) ?_ ?_ b
 ·intro _ j hj;simp at hj
 ·intro b x ih h j hj
  have h2:=h x (List.mem_append_right _ (List.mem_singleton.2 rfl))
  unfold byte at h2
  rw [List.length_append,List.length_singleton] at hj ⊢
  have e8:VB (b++[x])=2 ^ 8*VB b+x.toNat:=by rw [VB_snoc,Nat.mul_comm]
  rw [e8,Nat.testBit_two_pow_mul_add _ (lt8 (by omega))]
  by_cases hc:j<8*b.length
  ·have:=ih (fun y hy=>h y (List.mem_append_left _ hy)) hc
   rw [if_neg (by omega),show 8*(b.length+1)-1-j-8=8*b.length-1-j from by omega,this]
   unfold bt
   rw [List.getD_eq_getElem?_getD,List.getD_eq_getElem?_getD,List.getElem?_append_left (by omega)]
  ·rw [if_pos (by omega)]
   unfold bt
   rw [List.getD_eq_getElem?_getD,List.getElem?_append_right (by omega),show j / 8-b.length=0 from by omega]
   simp only [List.getElem?_cons_zero,Option.getD_some]
   congr 1
   omega
theorem VB_ext {b:List Int} (h:∀ x∈b,byte x) {n:Nat} (hn:n<2 ^ (8*b.length)) (hb:∀ j,j<8*b.length→bt b j=n.testBit (8*b.length-1-j)):VB b=n:=by
 refine Nat.eq_of_testBit_eq fun i => ?_
 by_cases hi:i<8*b.length
 ·have:=VB_bit h (j:=8*b.length-1-i) (by omega)
  rw [show 8*b.length-1-(8*b.length-1-i)=i from by omega] at this
  rw [this,hb _ (by omega),show 8*b.length-1-(8*b.length-1-i)=i from by omega]
 ·rw [Nat.testBit_lt_two_pow (Nat.lt_of_lt_of_le (VB_lt h) (Nat.pow_le_pow_right (by decide) (by omega))),Nat.testBit_lt_two_pow (Nat.lt_of_lt_of_le hn (Nat.pow_le_pow_right (by decide) (by omega)))]
theorem or_byte {a:Nat} {x:Int} (ha:a<18446744073709551616) (h:byte x):bitI .or .u64 (shlI .u64 (a:Int) 8) (IntKind.u64.wrap x)=(((a*256) % 18446744073709551616+x.toNat:Nat):Int):=by
 obtain⟨h1,h2⟩:=h
 obtain⟨X,rfl⟩:∃ X:Nat,x=X:=⟨x.toNat,by omega⟩
 have e2:(8:Int)=((8:Nat):Int):=rfl
 rw [e2,shl_nat a 8 (by decide),u64_nat (by omega),show(2:Nat) ^ 8=256 from by decide]
 have hm:a*256 % 18446744073709551616<18446744073709551616:=Nat.mod_lt _ (by decide)
 rw [or_nat hm (show X<18446744073709551616 by omega)]
 have e:a*256 % 18446744073709551616=2 ^ 8*(a % 72057594037927936):=by
  rw [show(2:Nat) ^ 8=256 from by decide];omega
 rw [e,← Nat.two_pow_add_eq_or_of_lt (lt8 (by omega)),Int.toNat_natCast]
theorem or_high {hi lo:Nat} (hh:hi<18446744073709551616) (hl:lo<18446744073709551616):bitI .or .u64 (shlI .u64 (hi:Int) 8) (shrI .u64 (lo:Int) 56)=(((hi*256) % 18446744073709551616+lo / 72057594037927936:Nat):Int):=by
 have e2:(8:Int)=((8:Nat):Int):=rfl
 have e3:(56:Int)=((56:Nat):Int):=rfl
 rw [e2,shl_nat hi 8 (by decide),e3,shr_nat lo 56 (by decide),show(2:Nat) ^ 8=256 from by decide,show(2:Nat) ^ 56=72057594037927936 from by decide]
 have hm:hi*256 % 18446744073709551616<18446744073709551616:=Nat.mod_lt _ (by decide)
 rw [or_nat hm (show lo / 72057594037927936<18446744073709551616 by omega)]
 have e:hi*256 % 18446744073709551616=2 ^ 8*(hi % 72057594037927936):=by
  rw [show(2:Nat) ^ 8=256 from by decide];omega
 rw [e,← Nat.two_pow_add_eq_or_of_lt (lt8 (by omega))]
theorem frombytes_eq {b:List Int} (h:∀ x∈b,byte x) {v:Bool} (hl:8*b.length=wid v):xref01_FromBytes b=some (mkA v (VB b),0):=by
 have hw:b.length=16∧v=true∨b.length=4∧v=false:=by
  cases v with
  | true=>left;have h2:8*b.length=128:=hl;exact⟨by omega,rfl⟩
  | false=>right;have h2:8*b.length=32:=hl;exact⟨by omega,rfl⟩
 refine Tot.eq ?_
 unfold xref01_FromBytes
 refine Tot.iteF (by rcases hw with hw | hw<;>simp [hw.1]) ?_
 refine Tot.bindRng b.length (fun k (p:Nat×Nat)=>(((k:Nat):Int),((p.1:Nat):Int),((p.2:Nat):Int))) (fun k p=>p.1<18446744073709551616∧p.2<18446744073709551616∧p.1*18446744073709551616+p.2=VB (b.take k)) (fun x=>x=(((VB b / 18446744073709551616:Nat):Int),((VB b % 18446744073709551616:Nat):Int))) (0,0) rfl ⟨by decide,by decide,rfl⟩ (fun k p hk hp => ?_) (fun p hp => ?_) (fun x hx => ?_)
 ·obtain⟨hi,lo⟩:=p
  obtain⟨h1,h2,h3⟩:=hp
  simp only at h1 h2 h3
  unfold xref01_FromBytes_L0
  have hx:=h _ (List.getElem_mem hk)
  refine Tot.iteT (by simpa using hk) (Tot.bindIdx k rfl hk (Tot.step (hi*256 % 18446744073709551616+lo / 72057594037927936,lo*256 % 18446744073709551616+b[k].toNat) ?_ ?_))
  ·have e:w64 ((k:Int)+1)=((k+1:Nat):Int):=by rw [w64_id (by omega) (by omega)];rfl
   simp only
   rw [e,or_byte h2 hx,or_high h1 h2]
  ·have hlt:=VB_lt (b:=b.take (k+1)) fun x hx=>h x (List.mem_of_mem_take hx)
   have hlen:(b.take (k+1)).length=k+1:=by rw [List.length_take];omega
   rw [hlen] at hlt
   have hp2:2 ^ (8*(k+1))≤2 ^ 128:=Nat.pow_le_pow_right (by decide) (by omega)
   have e128:(2:Nat) ^ 128=340282366920938463463374607431768211456:=by decide
   rw [e128] at hp2
   rw [take_snoc hk,VB_snoc,← h3] at hlt ⊢
   unfold byte at hx
   simp only
   omega
 ·obtain⟨hi,lo⟩:=p
  obtain⟨h1,h2,h3⟩:=hp
  simp only at h1 h2 h3
  unfold xref01_FromBytes_L0
  refine Tot.iteF (by simp) (Tot.last ?_)
  rw [List.take_length] at h3
  simp only
  rw [← h3]
  refine Prod.ext ?_ ?_<;>simp only<;>omega
 ·subst hx
  refine Tot.some ?_
  unfold mkA
  rcases hw with ⟨h1,h2⟩ | ⟨h1,h2⟩<;>simp [h1,h2]
theorem byte_of (n:Nat):byte ((n % 256:Nat):Int):=by unfold byte;omega
theorem bytes2_eq (a:aAddr):xref01_Bytes_2 a=xref01_Bytes a:=rfl
theorem bytes_eq {a:aAddr} (h:aV a):Tot (xref01_Bytes a) (fun b=>8*b.length=wid a.fV6∧(∀ x∈b,byte x)∧VB b=nA a):=by
 have hlt:=aV_lt h
 obtain⟨v,hi,lo⟩:=a
 have hR:=h.1
 obtain⟨⟨h1,h2⟩,h3,h4⟩:=hR
 simp only at h1 h2 h3 h4 hlt
 obtain⟨H,rfl⟩:∃ H:Nat,hi=H:=⟨hi.toNat,by omega⟩
 obtain⟨L,rfl⟩:∃ L:Nat,lo=L:=⟨lo.toNat,by omega⟩
 have hN:nA ⟨v,(H:Int),(L:Int)⟩=H*18446744073709551616+L:=by unfold nA;simp
 rw [hN] at hlt ⊢
 unfold xref01_Bytes
 refine Tot.bindT (ravalid_eq _ ▸ avalid_eq _ h.1) fun r hr => ?_
 have hr1:r=true:=hr.2 h
 subst hr1
 refine Tot.iteF rfl ?_
 refine Tot.jnR (fun m:Int=>8*m=(wid v:Nat)) (fun j hj => ?_) (fun m hm => ?_)
 ·refine Tot.ite (fun hv=>hj _ ?_) (fun hv=>hj _ ?_)
  ·have:v=true:=hv
   subst this;rfl
  ·have:v=false:=hv
   subst this;rfl
 ·obtain⟨n,rfl⟩:∃ n:Nat,m=n:=⟨m.toNat,by have:=wid_pos v;omega⟩
  have hw:=wid_le v
  have hw2:=wid_pos v
  refine Tot.bindT (P':=fun b:List Int=>b.length=n∧(∀ x∈b,byte x)∧VB b=H*18446744073709551616+L) ?_ fun b hb=>Tot.some ⟨by simp only;omega,hb.2.1,hb.2.2⟩
  refine Tot.loop (fun s:Int×List Int=>∃ i:Nat,i≤n∧s.1=(i:Int)-1∧s.2.length=n-i∧(∀ x∈s.2,byte x)∧VB s.2=(H*18446744073709551616+L) / 256 ^ i) (fun s=>(s.1+1).toNat) _ (fun s hs => ?_) ⟨n,Nat.le_refl _,by simp only;rw [w64_id (by omega) (by omega)],by simp,fun x hx=>(by cases hx),?_⟩
  ·obtain⟨i,hi,e1,e2,e3,e4⟩:=hs
   obtain⟨p,b⟩:=s
   simp only at e1 e2 e3 e4
   subst e1
   unfold xref01_Bytes_L0
   refine Tot.ite (fun hc => ?_) (fun hc => ?_)
   ·obtain⟨i,rfl⟩:∃ k,i=k+1:=⟨i-1,by simp at hc;omega⟩
    have ei:((i+1:Nat):Int)-1=(i:Int):=by omega
    simp only [ei]
    have key:∀ w:Nat,w<18446744073709551616→(w / 2 ^ (8*(i % 8))) % 256=(H*18446744073709551616+L) / 256 ^ i % 256→Tot (chk (decide ((b++([(IntKind.u8.wrap (shrI .u64 (w:Int) (IntKind.u64.wrap ((8:Int)*(IntKind.u64.wrap (Int.tmod (i:Int) (8:Int)))))))]:List Int)).length≤LIM))
      (some (Sum.inr ((w64 ((i:Int)-(1:Int))),(b++([(IntKind.u8.wrap (shrI .u64 (w:Int) (IntKind.u64.wrap ((8:Int)*(IntKind.u64.wrap (Int.tmod (i:Int) (8:Int)))))))]:List Int)))):Option (List Int⊕(Int×List Int)))) (Rnd (fun s:Int×List Int=>∃ i:Nat,i≤n∧s.1=(i:Int)-1∧s.2.length=n-i∧(∀ x∈s.2,byte x)∧VB s.2=(H*18446744073709551616+L) / 256 ^ i) (fun s=>(s.1+1).toNat) (fun b:List Int=>b.length=n∧(∀ x∈b,byte x)∧VB b=H*18446744073709551616+L) (((i:Int)),b)):=by
     intro w hw1 hw3
     have em:Int.tmod (i:Int) 8=((i % 8:Nat):Int):=by rw [Int.tmod_eq_emod_of_nonneg (by omega)];rfl
     have e8:(8:Int)*((i % 8:Nat):Int)=((8*(i % 8):Nat):Int):=by omega
     rw [em,u64_nat (by omega),e8,u64_nat (by omega),shr_nat w _ (by omega),u8_wrap]
     have e256:((w / 2 ^ (8*(i % 8)):Nat):Int) % 256=((w / 2 ^ (8*(i % 8)) % 256:Nat):Int):=rfl
     rw [e256,hw3]
     refine Tot.chk (limB (by simp;omega)) (Tot.next ⟨i,by omega,by simp only;rw [w64_id (by omega) (by omega)],by simp;omega,fun x hx => ?_,?_⟩ ?_)
     ·rcases List.mem_append.1 hx with hx | hx
      ·exact e3 x hx
      ·rw [List.mem_singleton.1 hx];exact byte_of _
     ·simp only
      rw [VB_snoc,e4,Int.toNat_natCast,Nat.pow_succ,← Nat.div_div_eq_div_mul]
      exact Nat.div_add_mod' _ 256
     ·simp only;rw [w64_id (by omega) (by omega)];omega
    have p256:∀ k:Nat,(256:Nat) ^ k=2 ^ (8*k):=fun k=>by rw [Nat.pow_mul]
    refine Tot.jn (Tot.ite (fun h8=>key H (by omega) ?_) (fun h8=>key L (by omega) ?_))
    ·have h8':8≤i:=by simp at h8;omega
     have:(H*18446744073709551616+L) / 256 ^ i=H / 2 ^ (8*(i % 8)):=by
      rw [p256,show 8*i=64+8*(i % 8) from by omega,Nat.pow_add,← Nat.div_div_eq_div_mul,show(2:Nat) ^ 64=18446744073709551616 from by decide]
      congr 1
      omega
     rw [this]
    ·have h8':i<8:=by simp at h8;omega
     rw [p256,show i % 8=i from by omega]
     have hi8:i=0∨i=1∨i=2∨i=3∨i=4∨i=5∨i=6∨i=7:=by omega
     rcases hi8 with rfl | rfl | rfl | rfl | rfl | rfl | rfl | rfl<;>simp only [Nat.reduceMul,Nat.reducePow]<;>omega
   ·have:i=0:=by simp at hc;omega
    subst this
    exact Tot.out ⟨by simp only;omega,e3,by simp only;rw [e4];simp⟩
  ·simp only
   have e:(256:Nat) ^ n=2 ^ wid v:=by
    rw [show wid v=8*n from by omega,Nat.pow_mul]
   rw [e,Nat.div_eq_of_lt hlt]
   rfl
-- bits of bytes
theorem mask_byte {m:Nat} (hm:m<8):shrI .u8 128 (m:Int)=((2 ^ (7-m):Nat):Int):=by
 have e:m=0∨m=1∨m=2∨m=3∨m=4∨m=5∨m=6∨m=7:=by omega
 rcases e with rfl | rfl | rfl | rfl | rfl | rfl | rfl | rfl<;>decide
theorem u8_byte (x:Int):byte x→IntKind.u8.wrap x=x:=fun h=>by unfold byte at h;rw [u8_wrap];omega
theorem clear_bit {x:Int} (h:byte x) {m:Nat} (hm:m<8):byte (bitI .andNot .u8 x ((2 ^ m:Nat):Int))∧∀ i,(bitI .andNot .u8 x ((2 ^ m:Nat):Int)).toNat.testBit i=(x.toNat.testBit i && !decide (i=m)):=by
 obtain⟨h1,h2⟩:=h
 obtain⟨X,rfl⟩:∃ X:Nat,x=X:=⟨x.toNat,by omega⟩
 have hX:X<2 ^ 8:=lt8 (by omega)
 have hp:2 ^ m<2 ^ 8:=Nat.pow_lt_pow_right (by decide) hm
 have hle:(BitVec.ofInt 8 (X:Int) &&& ~~~(BitVec.ofInt 8 ((2 ^ m:Nat):Int))).toNat<2 ^ 8:=BitVec.isLt _
 have e0:bitI .andNot .u8 (X:Int) ((2 ^ m:Nat):Int)=((BitVec.ofInt 8 (X:Int) &&& ~~~(BitVec.ofInt 8 ((2 ^ m:Nat):Int))).toNat:Int):=by
  show IntKind.u8.wrap ((BitVec.ofInt 8 (X:Int) &&& ~~~(BitVec.ofInt 8 ((2 ^ m:Nat):Int))).toNat:Int)=_
  refine u8_byte _ ?_
  unfold byte
  have:(2:Nat) ^ 8=256:=by decide
  omega
 rw [e0]
 refine⟨?_,fun i => ?_⟩
 ·unfold byte
  have:(2:Nat) ^ 8=256:=by decide
  omega
 ·rw [Int.toNat_natCast,BitVec.testBit_toNat,BitVec.getLsbD_and,BitVec.getLsbD_not,BitVec.ofInt_natCast,BitVec.ofInt_natCast,BitVec.getLsbD_ofNat,BitVec.getLsbD_ofNat,Nat.testBit_two_pow,Int.toNat_natCast]
  by_cases h8:i<8
  ·rw [decide_eq_true h8]
   by_cases hi:i=m
   ·subst hi;simp
   ·rw [decide_eq_false (show ¬ m=i from fun e=>hi e.symm),decide_eq_false hi];simp
  ·rw [decide_eq_false h8]
   have:X.testBit i=false:=Nat.testBit_lt_two_pow (Nat.lt_of_lt_of_le hX (Nat.pow_le_pow_right (by decide) (by omega)))
   rw [this];simp
theorem set_bit {x:Int} (h:byte x) {m:Nat} (hm:m<8):byte (bitI .or .u8 x ((2 ^ m:Nat):Int))∧∀ i,(bitI .or .u8 x ((2 ^ m:Nat):Int)).toNat.testBit i=(x.toNat.testBit i || decide (i=m)):=by
 obtain⟨h1,h2⟩:=h
 obtain⟨X,rfl⟩:∃ X:Nat,x=X:=⟨x.toNat,by omega⟩
 have hX:X<2 ^ 8:=lt8 (by omega)
 have hp:2 ^ m<2 ^ 8:=Nat.pow_lt_pow_right (by decide) hm
 have hle:(BitVec.ofInt 8 (X:Int) ||| BitVec.ofInt 8 ((2 ^ m:Nat):Int)).toNat<2 ^ 8:=BitVec.isLt _
 have e0:bitI .or .u8 (X:Int) ((2 ^ m:Nat):Int)=((BitVec.ofInt 8 (X:Int) ||| BitVec.ofInt 8 ((2 ^ m:Nat):Int)).toNat:Int):=by
  show IntKind.u8.wrap ((BitVec.ofInt 8 (X:Int) ||| BitVec.ofInt 8 ((2 ^ m:Nat):Int)).toNat:Int)=_
  refine u8_byte _ ?_
  unfold byte
  have:(2:Nat) ^ 8=256:=by decide
  omega
 rw [e0]
 refine⟨?_,fun i => ?_⟩
 ·unfold byte
  have:(2:Nat) ^ 8=256:=by decide
  omega
 ·rw [Int.toNat_natCast,BitVec.testBit_toNat,BitVec.getLsbD_or,BitVec.ofInt_natCast,BitVec.ofInt_natCast,BitVec.getLsbD_ofNat,BitVec.getLsbD_ofNat,Nat.testBit_two_pow,Int.toNat_natCast]
  by_cases h8:i<8
  ·rw [decide_eq_true h8]
   by_cases hi:i=m
   ·subst hi;simp
   ·rw [decide_eq_false (show ¬ m=i from fun e=>hi e.symm),decide_eq_false hi];simp
  ·rw [decide_eq_false h8,decide_eq_false (show ¬ i=m by omega)]
   have:X.testBit i=false:=Nat.testBit_lt_two_pow (Nat.lt_of_lt_of_le hX (Nat.pow_le_pow_right (by decide) (by omega)))
   rw [this];simp
theorem bt_set {b:List Int} {j:Nat} (hj:j<8*b.length) {y:Int} {f:Bool→Bool} (hy:∀ i,y.toNat.testBit i=if i=7-j % 8 then f ((b.getD (j / 8) 0).toNat.testBit i) else (b.getD (j / 8) 0).toNat.testBit i):∀ i,i<8*b.length→bt (b.set (j / 8) y) i=if i=j then f (bt b i) else bt b i:=by
 intro i hi
 unfold bt
 rw [List.getD_eq_getElem?_getD,List.getD_eq_getElem?_getD]
 by_cases h:j / 8=i / 8
 ·rw [← h,List.getElem?_set_self (by omega),Option.getD_some,hy,List.getD_eq_getElem?_getD]
  by_cases h2:i=j
  ·subst h2;simp
  ·rw [if_neg h2,if_neg (by omega)]
 ·rw [List.getElem?_set_ne h,if_neg (by intro e;subst e;exact h rfl)]
theorem getD_mem {b:List Int} {k:Nat} (hk:k<b.length):b.getD k 0=b[k]:=by
 rw [List.getD_eq_getElem?_getD,List.getElem?_eq_getElem hk];rfl
theorem byte_set {b:List Int} (h:∀ x∈b,byte x) {k:Nat} {y:Int} (hy:byte y):∀ x∈b.set k y,byte x:=fun x hx=>by
 rcases List.mem_or_eq_of_mem_set hx with hx | rfl
 ·exact h x hx
 ·exact hy
theorem idx8 {j:Nat} (hj:j<4611686018427387904):w64 (Int.tdiv (j:Int) 8)=((j / 8:Nat):Int):=by
 rw [Int.tdiv_eq_ediv_of_nonneg (by omega),w64_id (by omega) (by omega)];rfl
theorem shift8 {j:Nat}:shrI .u8 128 (IntKind.u64.wrap (Int.tmod (j:Int) 8))=((2 ^ (7-j % 8):Nat):Int):=by
 have e:Int.tmod (j:Int) 8=((j % 8:Nat):Int):=by rw [Int.tmod_eq_emod_of_nonneg (by omega)];rfl
 rw [e,u64_nat (by omega),mask_byte (by omega)]
theorem make_loop {b:List Int} (hb:∀ x∈b,byte x) (hl:b.length≤16) {n:Nat} (hn:n≤8*b.length):Tot (loop (xref02_Make_L0) ((n:Int),b)) (fun r=>r.length=b.length∧(∀ x∈r,byte x)∧VB r=cut (VB b) (8*b.length-n)):=by
 refine(Tot.loop (fun s:Int×List Int=>∃ i:Nat,s.1=i∧n≤i∧i≤8*b.length∧s.2.length=b.length∧(∀ x∈s.2,byte x)∧∀ j,j<8*b.length→bt s.2 j=(bt b j && !(decide (n≤j)&&decide (j<i)))) (fun s=>8*b.length-s.1.toNat) (fun r=>r.length=b.length∧(∀ x∈r,byte x)∧∀ j,j<8*b.length→bt r j=(bt b j && !decide (n≤j))) (fun s hs => ?_) ⟨n,rfl,Nat.le_refl _,hn,rfl,hb,fun j hj => ?_⟩).mono fun r hr=>⟨hr.1,hr.2.1,?_⟩
 ·obtain⟨i,e1,h1,h2,h3,h4,h5⟩:=hs
  obtain⟨p,c⟩:=s
  simp only at e1 h3 h4 h5
  subst e1
  unfold xref02_Make_L0
  have e8:w64 ((8:Int)*(c.length:Int))=((8*c.length:Nat):Int):=by rw [w64_id (by omega) (by omega)];omega
  simp only [e8]
  refine Tot.ite (fun hc => ?_) (fun hc => ?_)
  ·have hi:i<8*b.length:=by simp at hc;omega
   simp only [idx8 (show i<4611686018427387904 by omega),shift8]
   have hk:i / 8<c.length:=by omega
   have hx:=h4 _ (List.getElem_mem hk)
   obtain⟨g1,g2⟩:=clear_bit hx (show 7-i % 8<8 by omega)
   refine Tot.bindIdx (i / 8) rfl hk (Tot.bindIdx (i / 8) rfl hk (Tot.bindIdx (i / 8) rfl hk (Tot.bindIdx (i / 8) rfl hk ?_)))
   have ew:w64 ((i:Int)+1)=((i+1:Nat):Int):=by rw [w64_id (by omega) (by omega)];rfl
   refine Tot.next ⟨i+1,ew,by omega,by omega,?_,byte_set h4 g1,fun j hj => ?_⟩ ?_
   ·simp only [Int.toNat_natCast,List.length_set];exact h3
   ·simp only [Int.toNat_natCast]
    rw [bt_set (f:=fun _=>false) (by omega) (fun k => ?_) j (by omega)]
    ·by_cases hji:j=i
     ·subst hji
      rw [if_pos rfl,decide_eq_true h1,decide_eq_true (Nat.lt_succ_self j)];simp
     ·rw [if_neg hji,h5 j hj]
      by_cases h6:j<i
      ·rw [decide_eq_true h6,decide_eq_true (show j<i+1 by omega)]
      ·rw [decide_eq_false h6,decide_eq_false (show ¬ j<i+1 by omega)]
    ·rw [g2 k,getD_mem hk]
     by_cases hki:k=7-i % 8
     ·rw [if_pos hki,decide_eq_true hki];simp
     ·rw [if_neg hki,decide_eq_false hki];simp
   ·simp only [ew,Int.toNat_natCast];omega
  ·have:i=8*b.length:=by simp at hc;omega
   subst this
   refine Tot.out ⟨h3,h4,fun j hj => ?_⟩
   rw [h5 j hj,decide_eq_true hj];simp
 ·by_cases h6:n≤j
  ·rw [decide_eq_true h6,decide_eq_false (show ¬ j<n by omega)];simp
  ·rw [decide_eq_false h6];simp
 ·obtain⟨k1,k2,k3⟩:=hr
  refine VB_ext k2 (by rw [k1];exact Nat.lt_of_le_of_lt (cut_le _ _) (VB_lt hb)) fun j hj => ?_
  rw [k1] at hj ⊢
  rw [k3 j hj,cut_bit,VB_bit hb hj]
  by_cases h6:n≤j
  ·rw [decide_eq_true h6,decide_eq_false (show ¬ 8*b.length-n≤8*b.length-1-j by omega)];simp
  ·rw [decide_eq_false h6,decide_eq_true (show 8*b.length-n≤8*b.length-1-j by omega)];simp
def fill (n k:Nat):Nat:=cut n k+(2 ^ k-1)
theorem fill_bit (n k i:Nat):(fill n k).testBit i=(decide (i<k) || n.testBit i):=by
 have hk:0<2 ^ k:=Nat.pow_pos (by decide)
 have e:fill n k=2 ^ k*(n / 2 ^ k)+(2 ^ k-1):=by unfold fill cut;rw [Nat.mul_comm]
 rw [e,Nat.testBit_two_pow_mul_add _ (by omega),Nat.testBit_two_pow_sub_one,Nat.testBit_div_two_pow]
 by_cases h:i<k
 ·rw [if_pos h,decide_eq_true h];simp
 ·rw [if_neg h,decide_eq_false h,show i-k+k=i from by omega];simp
theorem fill_lt {n k w:Nat} (hn:n<2 ^ w) (hk:k≤w):fill n k<2 ^ w:=by
 refine Nat.lt_pow_two_of_testBit _ fun i hi => ?_
 rw [fill_bit,decide_eq_false (by omega),Nat.testBit_lt_two_pow (Nat.lt_of_lt_of_le hn (Nat.pow_le_pow_right (by decide) hi))]
 rfl
theorem last_loop {b:List Int} (hb:∀ x∈b,byte x) (hl:b.length≤16) {n:Nat} (hn:n≤8*b.length):Tot (loop (xref02_Last_L0) ((n:Int),b)) (fun r=>r.length=b.length∧(∀ x∈r,byte x)∧VB r=fill (VB b) (8*b.length-n)):=by
 refine(Tot.loop (fun s:Int×List Int=>∃ i:Nat,s.1=i∧n≤i∧i≤8*b.length∧s.2.length=b.length∧(∀ x∈s.2,byte x)∧∀ j,j<8*b.length→bt s.2 j=(bt b j || (decide (n≤j)&&decide (j<i)))) (fun s=>8*b.length-s.1.toNat) (fun r=>r.length=b.length∧(∀ x∈r,byte x)∧∀ j,j<8*b.length→bt r j=(bt b j || decide (n≤j))) (fun s hs => ?_) ⟨n,rfl,Nat.le_refl _,hn,rfl,hb,fun j hj => ?_⟩).mono fun r hr=>⟨hr.1,hr.2.1,?_⟩
 ·obtain⟨i,e1,h1,h2,h3,h4,h5⟩:=hs
  obtain⟨p,c⟩:=s
  simp only at e1 h3 h4 h5
  subst e1
  unfold xref02_Last_L0
  have e8:w64 ((8:Int)*(c.length:Int))=((8*c.length:Nat):Int):=by rw [w64_id (by omega) (by omega)];omega
  simp only [e8]
  refine Tot.ite (fun hc => ?_) (fun hc => ?_)
  ·have hi:i<8*b.length:=by simp at hc;omega
   simp only [idx8 (show i<4611686018427387904 by omega),shift8]
   have hk:i / 8<c.length:=by omega
   have hx:=h4 _ (List.getElem_mem hk)
   obtain⟨g1,g2⟩:=set_bit hx (show 7-i % 8<8 by omega)
   refine Tot.bindIdx (i / 8) rfl hk (Tot.bindIdx (i / 8) rfl hk (Tot.bindIdx (i / 8) rfl hk (Tot.bindIdx (i / 8) rfl hk ?_)))
   have ew:w64 ((i:Int)+1)=((i+1:Nat):Int):=by rw [w64_id (by omega) (by omega)];rfl
   refine Tot.next ⟨i+1,ew,by omega,by omega,?_,byte_set h4 g1,fun j hj => ?_⟩ ?_
   ·simp only [Int.toNat_natCast,List.length_set];exact h3
   ·simp only [Int.toNat_natCast]
    rw [bt_set (f:=fun _=>true) (by omega) (fun k => ?_) j (by omega)]
    ·by_cases hji:j=i
     ·subst hji
      rw [if_pos rfl,decide_eq_true h1,decide_eq_true (Nat.lt_succ_self j)];simp
     ·rw [if_neg hji,h5 j hj]
      by_cases h6:j<i
      ·rw [decide_eq_true h6,decide_eq_true (show j<i+1 by omega)]
      ·rw [decide_eq_false h6,decide_eq_false (show ¬ j<i+1 by omega)]
    ·rw [g2 k,getD_mem hk]
     by_cases hki:k=7-i % 8
     ·rw [if_pos hki,decide_eq_true hki];simp
     ·rw [if_neg hki,decide_eq_false hki];simp
   ·simp only [ew,Int.toNat_natCast];omega
  ·have:i=8*b.length:=by simp at hc;omega
   subst this
   refine Tot.out ⟨h3,h4,fun j hj => ?_⟩
   rw [h5 j hj,decide_eq_true hj];simp
 ·by_cases h6:n≤j
  ·rw [decide_eq_true h6,decide_eq_false (show ¬ j<n by omega)];simp
  ·rw [decide_eq_false h6];simp
 ·obtain⟨k1,k2,k3⟩:=hr
  refine VB_ext k2 (by rw [k1];exact fill_lt (VB_lt hb) (by omega)) fun j hj => ?_
  rw [k1] at hj ⊢
  rw [k3 j hj,fill_bit,VB_bit hb hj]
  by_cases h6:n≤j
  ·rw [decide_eq_true h6,decide_eq_true (show 8*b.length-1-j<8*b.length-n by omega)];simp
  ·rw [decide_eq_false h6,decide_eq_false (show ¬ 8*b.length-1-j<8*b.length-n by omega)];simp
def zA:aAddr:=aAddr.mk false 0 0
def zP:aPrefix:=aPrefix.mk zA 0
def aeq (a b:aAddr):Bool:=((a.fV6==b.fV6)&&((a.fHi==b.fHi)&&((a.fLo==b.fLo)&&true)))
theorem aeq_iff {a b:aAddr}:aeq a b=true↔a=b:=by
 obtain⟨a1,a2,a3⟩:=a
 obtain⟨b1,b2,b3⟩:=b
 simp [aeq]
def peq (p q:aPrefix):Bool:=(aeq p.fAddr q.fAddr&&((p.fLen==q.fLen)&&true))
theorem peq_iff {p q:aPrefix}:peq p q=true↔p=q:=by
 obtain⟨a,n⟩:=p
 obtain⟨b,m⟩:=q
 simp [peq,aeq_iff]
structure pV (p:aPrefix):Prop where
 addr:aV p.fAddr
 len0:0≤p.fLen
 len1:p.fLen≤wid p.fAddr.fV6
 low:cut (nA p.fAddr) (wid p.fAddr.fV6-p.fLen.toNat)=nA p.fAddr
def fr (p:aPrefix):Nat:=wid p.fAddr.fV6-p.fLen.toNat
open Classical in
noncomputable def MakeF (a:aAddr) (n:Int):aPrefix×Int :=
 if aV a then (if 0≤n∧n≤wid a.fV6 then (aPrefix.mk (mkA a.fV6 (cut (nA a) (wid a.fV6-n.toNat))) n,0) else (zP,9)) else (zP,1)
theorem rmake_eq {a:aAddr} (ha:aR a) (n:Int):xref02_Make a n=some (MakeF a n):=by
 refine Tot.eq ?_
 unfold xref02_Make MakeF
 refine Tot.bindT (ravalid_eq a ▸ avalid_eq a ha) fun r hr=>Tot.ite (fun h=>Tot.some ?_) (fun h => ?_)
 ·rw [if_neg]
  ·rfl
  ·intro hv;rw [hr.2 hv] at h;cases h
 ·have hv:aV a:=hr.1 (by simpa using h)
  rw [if_pos hv]
  refine Tot.jnR (fun m:Bool=>m=true↔¬ (0≤n∧n≤wid a.fV6)) (fun j hj => ?_) (fun m hm => ?_)
  ·refine Tot.ite (fun h1=>hj _ ?_) (fun h1=>Tot.bindOf (width_eq a:xref02_width a=_) (hj _ ?_))
   ·simp at h1
    simp
    omega
   ·simp at h1
    simp
    omega
  ·refine Tot.ite (fun h1=>Tot.some ?_) (fun h1 => ?_)
   ·rw [if_neg (hm.1 h1)];rfl
   ·have hb:0≤n∧n≤wid a.fV6:=by
     by_cases hc:0≤n∧n≤wid a.fV6
     ·exact hc
     ·rw [hm.2 hc] at h1;cases h1
    rw [if_pos hb]
    obtain⟨N,rfl⟩:∃ N:Nat,n=N:=⟨n.toNat,by omega⟩
    have hw:=wid_le a.fV6
    refine Tot.bindT (bytes2_eq a ▸ bytes_eq hv) fun b hb2 => ?_
    obtain⟨k1,k2,k3⟩:=hb2
    refine Tot.bindT (make_loop k2 (by omega) (n:=N) (by omega)) fun r hr2 => ?_
    obtain⟨g1,g2,g3⟩:=hr2
    refine Tot.bindOf (frombytes_eq g2 (v:=a.fV6) (by rw [g1];exact k1)) (Tot.some ?_)
    rw [g3,k3,k1,Int.toNat_natCast]
theorem makeF_ok {a:aAddr} (ha:aV a) {n:Nat} (hn:n≤wid a.fV6):MakeF a n=(aPrefix.mk (mkA a.fV6 (cut (nA a) (wid a.fV6-n))) n,0):=by
 unfold MakeF
 rw [if_pos ha,if_pos ⟨by omega,by omega⟩,Int.toNat_natCast]
theorem make_V {a:aAddr} (ha:aV a) {n:Nat} (hn:n≤wid a.fV6):pV (aPrefix.mk (mkA a.fV6 (cut (nA a) (wid a.fV6-n))) n):=by
 have hlt:=Nat.lt_of_le_of_lt (cut_le (nA a) (wid a.fV6-n)) (aV_lt ha)
 refine⟨mkA_V hlt,by simp only;omega,by simp only [mkA_v6];omega,?_⟩
 simp only [mkA_v6,nA_mkA,Int.toNat_natCast]
 exact cut_cut _ (Nat.le_refl _)
open Classical in
theorem validP_of {p:aPrefix} (ha:aR p.fAddr):((MakeF p.fAddr p.fLen).2=0∧p=(MakeF p.fAddr p.fLen).1)↔pV p:=by
 unfold MakeF
 constructor
 ·intro⟨h1,h2⟩
  by_cases hv:aV p.fAddr
  ·rw [if_pos hv] at h1 h2
   by_cases hn:0≤p.fLen∧p.fLen≤wid p.fAddr.fV6
   ·rw [if_pos hn] at h2
    refine⟨hv,hn.1,hn.2,?_⟩
    have:=congrArg (fun q=>nA (aPrefix.fAddr q)) h2
    simp only [nA_mkA] at this
    exact this.symm
   ·rw [if_neg hn] at h1;cases h1
  ·rw [if_neg hv] at h1;cases h1
 ·intro h
  rw [if_pos h.addr,if_pos ⟨h.len0,h.len1⟩]
  refine⟨rfl,?_⟩
  simp only
  rw [h.low,mkA_nA ha]
open Classical in
noncomputable def validF (p:aPrefix):Bool:=decide (pV p)
open Classical in
theorem validF_iff {p:aPrefix}:validF p=true↔pV p:=by unfold validF;rw [decide_eq_true_iff]
theorem rvalid_eq {p:aPrefix} (ha:aR p.fAddr):xref02_Valid p=some (validF p):=by
 unfold xref02_Valid
 refine bind_of (rmake_eq ha _) ?_
 congr 1
 have key:(((MakeF p.fAddr p.fLen).2==0)&&peq p (MakeF p.fAddr p.fLen).1)=validF p:=by
  rw [Bool.eq_iff_iff,validF_iff,← validP_of ha,Bool.and_eq_true,beq_iff_eq,peq_iff]
 exact key
theorem pvalid_eq {p:aPrefix} (ha:aR p.fAddr):prefix_Valid p=some (validF p):=by
 refine Tot.eq ?_
 unfold prefix_Valid
 refine Tot.jn (Tot.bindT (avalid_eq _ ha) fun r hr=>Tot.ite (fun h=>Tot.bindOf (width_eq _) (Tot.ite (fun h1 => ?_) (fun h1=>Tot.some ?_))) (fun h=>Tot.some ?_))
 ·simp only [Bool.and_eq_true,decide_eq_true_eq] at h
  have hv:=hr.1 h.1
  have h1:=of_decide_eq_true h1
  obtain⟨N,hN⟩:∃ N:Nat,p.fLen=N:=⟨p.fLen.toNat,by omega⟩
  rw [hN] at h1 ⊢
  refine Tot.bindOf (first_eq ha (by omega)) (Tot.some ?_)
  show aeq (mkA p.fAddr.fV6 (cut (nA p.fAddr) (wid p.fAddr.fV6-N))) p.fAddr=validF p
  rw [Bool.eq_iff_iff,validF_iff,aeq_iff]
  constructor
  ·intro e
   refine⟨hv,h.2,by rw [hN];exact h1,?_⟩
   have:=congrArg nA e
   rw [nA_mkA] at this
   rw [hN];exact this
  ·intro e
   have:=e.low
   rw [hN,Int.toNat_natCast] at this
   rw [this,mkA_nA ha]
 ·symm
  rw [← Bool.not_eq_true]
  intro e
  have:=(validF_iff.1 e).len1
  have:=of_decide_eq_false h1
  omega
 ·symm
  rw [← Bool.not_eq_true]
  intro e
  have e:=validF_iff.1 e
  rw [hr.2 e.addr,decide_eq_true e.len0] at h
  cases h
-- order
theorem compare_eq (x y:Int):cmp_Compare x y=some (if x<y then -1 else if y<x then 1 else 0):=by
 unfold cmp_Compare cmp_isNaN
 simp only [Option.bind_some,bne_self_eq_false,Bool.false_eq_true,if_false]
 by_cases h:x<y
 ·rw [if_pos h,if_pos (decide_eq_true h)]
 ·rw [if_neg h,if_neg (by simpa using h)]
  by_cases h2:y<x
  ·rw [if_pos h2,if_pos (decide_eq_true h2)]
  ·rw [if_neg h2,if_neg (by simpa using h2)]
theorem compare2_eq (x y:Int):cmp_Compare_2 x y=some (if x<y then -1 else if y<x then 1 else 0):=compare_eq x y
def orL:List Int→Int
 | []=>0
 | x :: l=>if x≠0 then x else orL l
theorem or_eq (l:List Int) (hl:l.length≤4611686018427387904):cmp_Or l=some (orL l):=by
 refine Tot.eq ?_
 unfold cmp_Or
 refine Tot.bindRng l.length (fun k (_:Unit)=>((k:Nat):Int)) (fun k _=>orL l=orL (l.drop k)) (fun x=>match x with | .inl y=>orL l=y | .inr _=>orL l=0) () rfl rfl (fun k b hk hb => ?_) (fun b hb => ?_) (fun x hx => ?_)
 ·unfold cmp_Or_L0
  have hw:w64 ((k:Int)+1)=((k+1:Nat):Int):=by rw [w64_id (by omega) (by omega)];rfl
  rw [List.drop_eq_getElem_cons hk] at hb
  refine Tot.iteT (by simpa using hk) (Tot.bindIdx k rfl hk (Tot.ite (fun h=>Tot.stop ?_) (fun h=>Tot.step () hw ?_)))
  ·rw [orL,if_pos (by simpa using h)] at hb
   exact hb
  ·rw [orL,if_neg (by simpa using h)] at hb
   exact hb
 ·unfold cmp_Or_L0
  refine Tot.iteF (by simp) (Tot.last ?_)
  rw [List.drop_length] at hb
  exact hb
 ·cases x with
  | inl y=>exact Tot.some hx.symm
  | inr u=>exact Tot.some hx.symm
def aLt (a b:aAddr):Prop:=(a.fV6=false∧b.fV6=true)∨(a.fV6=b.fV6∧nA a<nA b)
instance (a b:aAddr):Decidable (aLt a b):=by unfold aLt;infer_instance
instance:DecidableEq aAddr:=fun a b=>decidable_of_iff _ (aeq_iff (a:=a) (b:=b))
instance:DecidableEq aPrefix:=fun a b=>decidable_of_iff _ (peq_iff (p:=a) (q:=b))
def cmpA (a b:aAddr):Int:=if aLt a b then -1 else if aLt b a then 1 else 0
theorem nA_lt {a b:aAddr} (ha:aR a) (hb:aR b):nA a<nA b↔a.fHi<b.fHi∨a.fHi=b.fHi∧a.fLo<b.fLo:=by
 unfold aR at ha hb
 unfold nA
 omega
theorem acmp_eq {a b:aAddr} (ha:aR a) (hb:aR b):addr_Cmp a b=some (cmpA a b):=by
 have fam:∀ x:aAddr,addr_family x=some (if x.fV6=true then 1 else 0):=fun x=>by unfold addr_family;split<;>rfl
 unfold addr_Cmp
 refine bind_of (fam a) (bind_of (fam b) (bind_of (compare_eq _ _) (bind_of (compare2_eq _ _) (bind_of (compare2_eq _ _) (bind_of (or_eq _ (by simp)) ?_)))))
 congr 1
 have e1:aLt a b↔((a.fV6=false∧b.fV6=true)∨(a.fV6=b.fV6∧(a.fHi<b.fHi∨a.fHi=b.fHi∧a.fLo<b.fLo))):=by unfold aLt;rw [nA_lt ha hb]
 have e2:aLt b a↔((b.fV6=false∧a.fV6=true)∨(b.fV6=a.fV6∧(b.fHi<a.fHi∨b.fHi=a.fHi∧b.fLo<a.fLo))):=by unfold aLt;rw [nA_lt hb ha]
 unfold cmpA
 simp only [orL,e1,e2]
 cases hva:a.fV6<;>cases hvb:b.fV6<;>simp<;>(repeat' split)<;>omega
theorem racmp_eq {a b:aAddr} (ha:aR a) (hb:aR b):xref01_Cmp a b=some (cmpA a b):=by
 refine Tot.eq ?_
 unfold xref01_Cmp cmpA
 refine Tot.ite (fun h=>Tot.some ?_) (fun h => ?_)
 ·have e:a=b:=aeq_iff.1 h
  subst e
  have:¬ aLt a a:=by unfold aLt;cases a.fV6<;>simp
  rw [if_neg this,if_neg this]
 ·have h:aeq a b=false:=h
  have hne:a≠b:=fun e=>by rw [show aeq a b=true from aeq_iff.2 e] at h;cases h
  refine Tot.ite (fun h1 => ?_) (fun h1 => ?_)
  ·have h1:a.fV6≠b.fV6:=by simpa using h1
   refine Tot.ite (fun h2=>Tot.some ?_) (fun h2=>Tot.some ?_)
   ·have:a.fV6=false:=by
     cases hh:a.fV6 with
     | false=>rfl
     | true=>rw [hh,h2] at h1;exact absurd rfl h1
    rw [if_pos (.inl ⟨this,h2⟩)]
   ·have:a.fV6=true:=by
     cases hh:a.fV6 with
     | true=>rfl
     | false=>rw [hh,h2] at h1;exact absurd rfl h1
    rw [if_neg (by unfold aLt;simp [this,h2]),if_pos (.inl ⟨h2,this⟩)]
  ·have h1:a.fV6=b.fV6:=by simpa using h1
   have e1:aLt a b↔nA a<nA b:=by unfold aLt;rw [h1];cases b.fV6<;>simp
   have e2:aLt b a↔nA b<nA a:=by unfold aLt;rw [h1];cases b.fV6<;>simp
   have hne2:nA a≠nA b:=fun e=>hne (aV_eq ha hb h1 e)
   refine Tot.jnR (fun m:Bool=>m=true↔nA a<nA b) (fun j hj => ?_) (fun m hm=>Tot.ite (fun h2=>Tot.some ?_) (fun h2=>Tot.some ?_))
   ·refine Tot.ite (fun h2=>hj _ ?_) (fun h2=>hj _ ?_)
    ·rw [nA_lt ha hb];simp at h2;simp [h2]
    ·rw [nA_lt ha hb];simp at h2;simp;omega
   ·rw [if_pos (e1.2 (hm.1 h2))]
   ·have h3:¬ nA a<nA b:=fun e=>by rw [hm.2 e] at h2;cases h2
    rw [if_neg (fun e=>h3 (e1.1 e)),if_pos (e2.2 (by omega))]
def pLt (p q:aPrefix):Prop:=aLt p.fAddr q.fAddr∨(¬ aLt q.fAddr p.fAddr∧p.fLen<q.fLen)
instance (p q:aPrefix):Decidable (pLt p q):=by unfold pLt;infer_instance
def cmpP (p q:aPrefix):Int:=if pLt p q then -1 else if pLt q p then 1 else 0
theorem aLt_asym {a b:aAddr} (h:aLt a b):¬ aLt b a:=by
 unfold aLt at *
 rcases h with ⟨h1,h2⟩ | ⟨h1,h2⟩
 ·rintro(⟨h3,h4⟩ | ⟨h3,h4⟩)
  ·rw [h2] at h3;cases h3
  ·rw [h1,h2] at h3;cases h3
 ·rintro(⟨h3,h4⟩ | ⟨h3,h4⟩)
  ·rw [h1,h3] at h4;cases h4
  ·omega
theorem pcmp_eq {p q:aPrefix} (ha:aR p.fAddr) (hb:aR q.fAddr):prefix_Cmp p q=some (cmpP p q):=by
 unfold prefix_Cmp
 refine bind_of (acmp_eq ha hb) (bind_of (compare_eq _ _) (bind_of (or_eq _ (by simp)) ?_))
 congr 1
 unfold cmpP cmpA pLt
 simp only [orL]
 by_cases h1:aLt p.fAddr q.fAddr
 ·have:=aLt_asym h1
  simp [h1]
 ·by_cases h2:aLt q.fAddr p.fAddr
  ·simp [h1,h2]
  ·simp only [h1,h2,if_false,ne_eq,not_true_eq_false,false_or,not_false_eq_true,true_and]
   by_cases h3:p.fLen<q.fLen
   ·simp [h3]
   ·by_cases h4:q.fLen<p.fLen
    ·simp [h3,h4]
    ·simp [h3,h4]
theorem rpcmp_eq {p q:aPrefix} (ha:aR p.fAddr) (hb:aR q.fAddr):xref02_Cmp p q=some (cmpP p q):=by
 unfold xref02_Cmp
 refine bind_of (racmp_eq ha hb) ?_
 unfold cmpP cmpA pLt
 by_cases h1:aLt p.fAddr q.fAddr
 ·have:=aLt_asym h1
  simp [h1]
 ·by_cases h2:aLt q.fAddr p.fAddr
  ·simp [h1,h2]
  ·simp only [h1,h2,if_false,bne_self_eq_false,Bool.false_eq_true,false_or,not_false_eq_true,true_and]
   by_cases h3:p.fLen<q.fLen
   ·simp [h3]
   ·by_cases h4:q.fLen<p.fLen
    ·simp [h3,h4]
    ·simp [h3,h4]
theorem aLt_trans {a b c:aAddr} (h:aLt a b) (k:aLt b c):aLt a c:=by
 unfold aLt at *
 rcases h with ⟨h1,h2⟩ | ⟨h1,h2⟩<;>rcases k with ⟨k1,k2⟩ | ⟨k1,k2⟩
 ·exact .inl ⟨h1,k2⟩
 ·exact .inl ⟨h1,by rw [← k1];exact h2⟩
 ·exact .inl ⟨by rw [h1];exact k1,k2⟩
 ·exact .inr ⟨h1.trans k1,by omega⟩
theorem aLt_tri {a b:aAddr} (ha:aR a) (hb:aR b) (h1:¬ aLt a b) (h2:¬ aLt b a):a=b:=by
 unfold aLt at h1 h2
 have hv:a.fV6=b.fV6:=by
  cases h3:a.fV6<;>cases h4:b.fV6
  ·rfl
  ·exact(h1 (.inl ⟨h3,h4⟩)).elim
  ·exact(h2 (.inl ⟨h4,h3⟩)).elim
  ·rfl
 refine aV_eq ha hb hv ?_
 have e1:¬ nA a<nA b:=fun e=>h1 (.inr ⟨hv,e⟩)
 have e2:¬ nA b<nA a:=fun e=>h2 (.inr ⟨hv.symm,e⟩)
 omega
theorem aLt_irr (a:aAddr):¬ aLt a a:=fun h=>aLt_asym h h
theorem pLt_asym {p q:aPrefix} (h:pLt p q):¬ pLt q p:=by
 unfold pLt at *
 rcases h with h | ⟨h1,h2⟩
 ·rintro(k | ⟨k1,k2⟩)
  ·exact aLt_asym h k
  ·exact k1 h
 ·rintro(k | ⟨k1,k2⟩)
  ·exact h1 k
  ·omega
theorem pLt_trans {p q r:aPrefix} (hp:aR p.fAddr) (hq:aR q.fAddr) (hr:aR r.fAddr) (h:pLt p q) (k:pLt q r):pLt p r:=by
 unfold pLt at *
 rcases h with h | ⟨h1,h2⟩<;>rcases k with k | ⟨k1,k2⟩
 ·exact .inl (aLt_trans h k)
 ·by_cases e:aLt q.fAddr r.fAddr
  ·exact .inl (aLt_trans h e)
  ·rw [← aLt_tri hq hr e k1];exact .inl h
 ·by_cases e:aLt p.fAddr q.fAddr
  ·exact .inl (aLt_trans e k)
  ·rw [aLt_tri hp hq e h1];exact .inl k
 ·by_cases e:aLt p.fAddr q.fAddr
  ·by_cases e2:aLt q.fAddr r.fAddr
   ·exact .inl (aLt_trans e e2)
   ·rw [← aLt_tri hq hr e2 k1];exact .inl e
  ·rw [aLt_tri hp hq e h1]
   by_cases e2:aLt q.fAddr r.fAddr
   ·exact .inl e2
   ·rw [aLt_tri hq hr e2 k1];exact .inr ⟨aLt_irr _,by omega⟩
theorem pLt_tri {p q:aPrefix} (hp:aR p.fAddr) (hq:aR q.fAddr) (h1:¬ pLt p q) (h2:¬ pLt q p):p=q:=by
 unfold pLt at h1 h2
 have e:=aLt_tri hp hq (fun h=>h1 (.inl h)) (fun h=>h2 (.inl h))
 have hl:p.fLen=q.fLen:=by
  have a1:¬ p.fLen<q.fLen:=fun h=>h1 (.inr ⟨fun h'=>h2 (.inl h'),h⟩)
  have a2:¬ q.fLen<p.fLen:=fun h=>h2 (.inr ⟨fun h'=>h1 (.inl h'),h⟩)
  omega
 obtain⟨a,n⟩:=p
 obtain⟨b,m⟩:=q
 simp only at e hl
 rw [e,hl]
theorem pLt_irr (p:aPrefix):¬ pLt p p:=fun h=>pLt_asym h h
theorem cmpP_lt (p q:aPrefix):cmpP p q<0↔pLt p q:=by
 unfold cmpP
 split
 ·simp_all
 ·split<;>simp_all
theorem cmpP_zero {p q:aPrefix} (hp:aR p.fAddr) (hq:aR q.fAddr):cmpP p q=0↔p=q:=by
 unfold cmpP
 constructor
 ·intro h
  split at h
  ·cases h
  ·split at h
   ·cases h
   ·rename_i h1 h2;exact pLt_tri hp hq h1 h2
 ·intro h
  subst h
  rw [if_neg (pLt_irr p),if_neg (pLt_irr p)]
open Classical in
noncomputable def ContF (p:aPrefix) (a:aAddr):Bool:=decide (p.fAddr.fV6=a.fV6∧(0≤p.fLen∧p.fLen≤wid a.fV6)∧mkA a.fV6 (cut (nA a) (wid a.fV6-p.fLen.toNat))=p.fAddr)
open Classical in
theorem contF_iff {p:aPrefix} {a:aAddr}:ContF p a=true↔p.fAddr.fV6=a.fV6∧(0≤p.fLen∧p.fLen≤wid a.fV6)∧mkA a.fV6 (cut (nA a) (wid a.fV6-p.fLen.toNat))=p.fAddr:=by
 unfold ContF;rw [decide_eq_true_iff]
theorem cont_eq (p:aPrefix) {a:aAddr} (ha:aR a):prefix_Contains p a=some (ContF p a):=by
 refine Tot.eq ?_
 unfold prefix_Contains
 refine Tot.jn (Tot.ite (fun h=>Tot.bindOf (width_eq _) (Tot.ite (fun h1 => ?_) (fun h1=>Tot.some ?_))) (fun h=>Tot.some ?_))
 ·simp only [Bool.and_eq_true,beq_iff_eq,decide_eq_true_eq] at h h1
  obtain⟨N,hN⟩:∃ N:Nat,p.fLen=N:=⟨p.fLen.toNat,by omega⟩
  rw [hN] at h1 ⊢
  refine Tot.bindOf (first_eq ha (by omega)) (Tot.some ?_)
  show aeq (mkA a.fV6 (cut (nA a) (wid a.fV6-N))) p.fAddr=ContF p a
  rw [Bool.eq_iff_iff,aeq_iff,contF_iff,hN,Int.toNat_natCast]
  exact⟨fun e=>⟨h.1,⟨by omega,h1⟩,e⟩,fun e=>e.2.2⟩
 ·symm
  rw [← Bool.not_eq_true]
  intro e
  have:=(contF_iff.1 e).2.1.2
  have:=of_decide_eq_false h1
  omega
 ·symm
  rw [← Bool.not_eq_true]
  intro e
  obtain⟨e1,e2,_⟩:=contF_iff.1 e
  simp [e1,e2.1] at h
noncomputable def CoversF (p q:aPrefix):Bool:=decide (p.fLen≤q.fLen)&&ContF p q.fAddr
theorem covers_eq (p:aPrefix) {q:aPrefix} (ha:aR q.fAddr):prefix_Covers p q=some (CoversF p q):=by
 refine Tot.eq ?_
 unfold prefix_Covers CoversF
 refine Tot.jn (Tot.ite (fun h=>Tot.bindOf (cont_eq p ha) (Tot.some ?_)) (fun h=>Tot.some ?_))
 ·rw [h];simp
 ·rw [h];simp
theorem cont_iff {p:aPrefix} (hp:pV p) {a:aAddr}:ContF p a=true↔a.fV6=p.fAddr.fV6∧cut (nA a) (fr p)=nA p.fAddr:=by
 rw [contF_iff]
 unfold fr
 constructor
 ·rintro⟨h1,h2,h3⟩
  refine⟨h1.symm,?_⟩
  have:=congrArg nA h3
  rw [nA_mkA] at this
  rw [h1];exact this
 ·rintro⟨h1,h2⟩
  refine⟨h1.symm,by rw [h1];exact⟨hp.len0,hp.len1⟩,?_⟩
  rw [h1,h2,mkA_nA hp.addr.1]
theorem covers_iff {p q:aPrefix} (hp:pV p):CoversF p q=true↔p.fLen≤q.fLen∧q.fAddr.fV6=p.fAddr.fV6∧cut (nA q.fAddr) (fr p)=nA p.fAddr:=by
 unfold CoversF
 rw [Bool.and_eq_true,decide_eq_true_eq,cont_iff hp]
theorem pV_ext {p q:aPrefix} (hp:pV p) (hq:pV q) (h1:p.fAddr.fV6=q.fAddr.fV6) (h2:p.fLen=q.fLen) (h3:nA p.fAddr=nA q.fAddr):p=q:=by
 have:=aV_eq hp.addr.1 hq.addr.1 h1 h3
 obtain⟨a,n⟩:=p
 obtain⟨b,m⟩:=q
 simp only at this h2
 rw [this,h2]
theorem low_fr {p:aPrefix} (hp:pV p):cut (nA p.fAddr) (fr p)=nA p.fAddr:=hp.low
theorem covers_self {p:aPrefix} (hp:pV p):CoversF p p=true:=(covers_iff hp).2 ⟨Int.le_refl _,rfl,low_fr hp⟩
theorem fr_le {p q:aPrefix} (hp:pV p) (hq:pV q) (hv:p.fAddr.fV6=q.fAddr.fV6) (h:p.fLen≤q.fLen):fr q≤fr p:=by
 unfold fr
 rw [hv]
 have:=hp.len0
 have:=hq.len0
 omega
theorem fr_eq {p:aPrefix} (hp:pV p):(fr p:Int)=wid p.fAddr.fV6-p.fLen:=by
 unfold fr
 have:=hp.len0
 have:=hp.len1
 omega
theorem covers_cont {p q:aPrefix} (hp:pV p) (hq:pV q) (h:CoversF p q=true) {a:aAddr} (k:ContF q a=true):ContF p a=true:=by
 obtain⟨h1,h2,h3⟩:=(covers_iff hp).1 h
 obtain⟨k2,k3⟩:=(cont_iff hq).1 k
 refine(cont_iff hp).2 ⟨k2.trans h2,?_⟩
 rw [← h3,← k3,cut_cut _ (fr_le hp hq h2.symm h1)]
theorem nest {p q:aPrefix} (hp:pV p) (hq:pV q) {a:aAddr} (h:ContF p a=true) (k:ContF q a=true) (hl:p.fLen≤q.fLen):CoversF p q=true:=by
 obtain⟨h2,h3⟩:=(cont_iff hp).1 h
 obtain⟨k2,k3⟩:=(cont_iff hq).1 k
 refine(covers_iff hp).2 ⟨hl,k2.symm.trans h2,?_⟩
 rw [← k3,cut_cut _ (fr_le hp hq (h2.symm.trans k2) hl),h3]
-- the last address, halves
noncomputable def LastF (p:aPrefix):aAddr:=mkA p.fAddr.fV6 (fill (nA p.fAddr) (fr p))
theorem fr_wid (p:aPrefix):fr p≤wid p.fAddr.fV6:=by unfold fr;omega
theorem lastF_V {p:aPrefix} (hp:pV p):aV (LastF p):=mkA_V (fill_lt (aV_lt hp.addr) (fr_wid p))
theorem lastF_cont {p:aPrefix} (hp:pV p):ContF p (LastF p)=true:=by
 refine(cont_iff hp).2 ⟨rfl,?_⟩
 unfold LastF
 rw [nA_mkA]
 refine Nat.eq_of_testBit_eq fun i => ?_
 have h:=congrArg (fun n=>Nat.testBit n i) (low_fr hp)
 simp only [cut_bit] at h
 rw [cut_bit,fill_bit,← h]
 by_cases hi:fr p≤i
 ·rw [decide_eq_true hi,decide_eq_false (show ¬ i<fr p by omega)];simp
 ·rw [decide_eq_false hi];simp
theorem rlast_eq {p:aPrefix} (hp:pV p):xref02_Last p=some (LastF p):=by
 refine Tot.eq ?_
 unfold xref02_Last
 have hw:=wid_le p.fAddr.fV6
 refine Tot.bindT (bytes2_eq _ ▸ bytes_eq hp.addr) fun b hb => ?_
 obtain⟨k1,k2,k3⟩:=hb
 obtain⟨N,hN⟩:∃ N:Nat,p.fLen=N:=⟨p.fLen.toNat,by have:=hp.len0;omega⟩
 have hm:maxI (0:Int) p.fLen=(N:Int):=by unfold maxI;rw [hN];split<;>omega
 rw [hm]
 have hl:=hp.len1
 refine Tot.bindT (last_loop k2 (by omega) (n:=N) (by omega)) fun r hr => ?_
 obtain⟨g1,g2,g3⟩:=hr
 refine Tot.bindOf (frombytes_eq g2 (v:=p.fAddr.fV6) (by rw [g1];exact k1)) (Tot.some ?_)
 unfold LastF
 rw [g3,k3,k1]
 unfold fr
 rw [hN,Int.toNat_natCast]
theorem fill_words (hi lo k:Nat) (hhi:hi<18446744073709551616) (hlo:lo<18446744073709551616) (hk:k≤128):fill (hi*18446744073709551616+lo) k=(hi ||| (2 ^ (k-64)-1))*18446744073709551616+(lo ||| (2 ^ (min k 64)-1)):=by
 have e64:(18446744073709551616:Nat)=2 ^ 64:=by decide
 rw [e64] at hhi hlo ⊢
 have hp2:2 ^ (min k 64)≤2 ^ 64:=Nat.pow_le_pow_right (by decide) (by omega)
 have hp0:0<2 ^ (min k 64):=Nat.pow_pos (by decide)
 have hlt:lo ||| (2 ^ (min k 64)-1)<2 ^ 64:=Nat.or_lt_two_pow hlo (by omega)
 refine Nat.eq_of_testBit_eq fun i => ?_
 rw [fill_bit,Nat.mul_comm hi,Nat.testBit_two_pow_mul_add _ hlo,Nat.mul_comm (hi ||| _),Nat.testBit_two_pow_mul_add _ hlt,Nat.testBit_or,Nat.testBit_or,Nat.testBit_two_pow_sub_one,Nat.testBit_two_pow_sub_one]
 by_cases h1:i<64
 ·rw [if_pos h1,if_pos h1,Bool.or_comm]
  congr 1
  rw [decide_eq_decide];omega
 ·rw [if_neg h1,if_neg h1,Bool.or_comm]
  congr 1
  rw [decide_eq_decide];omega
theorem last_eq {p:aPrefix} (hp:pV p):prefix_Last p=some (LastF p):=by
 unfold prefix_Last
 have hfr:((fr p:Nat):Int)=wid p.fAddr.fV6-p.fLen:=fr_eq hp
 have hw:=wid_le p.fAddr.fV6
 have hf:=fr_wid p
 refine bind_of (pvalid_eq hp.addr.1) (ite_of_f (by rw [validF_iff.2 hp];rfl) (bind_of (width_eq _) ?_))
 have e:w64 (((wid p.fAddr.fV6:Nat):Int)-p.fLen)=((fr p:Nat):Int):=by rw [← hfr,w64_id (by omega) (by omega)]
 rw [e]
 refine bind_of (masks_eq (by omega)) ?_
 congr 1
 unfold LastF
 obtain⟨⟨v,hi,lo⟩,n⟩:=p
 obtain⟨⟨⟨h1,h2⟩,h3,h4⟩,_⟩:=hp.addr
 simp only at h1 h2 h3 h4 hf hw ⊢
 generalize fr ⟨⟨v,hi,lo⟩,n⟩=k at hf ⊢
 obtain⟨H,rfl⟩:∃ H:Nat,hi=H:=⟨hi.toNat,by omega⟩
 obtain⟨L,rfl⟩:∃ L:Nat,lo=L:=⟨lo.toNat,by omega⟩
 have hn':nA ⟨v,(H:Int),(L:Int)⟩=H*18446744073709551616+L:=by unfold nA;simp
 have hp1:2 ^ (k-64)≤2 ^ 64:=Nat.pow_le_pow_right (by decide) (by omega)
 have hp2:2 ^ (min k 64)≤2 ^ 64:=Nat.pow_le_pow_right (by decide) (by omega)
 have hq1:0<2 ^ (k-64):=Nat.pow_pos (by decide)
 have hq2:0<2 ^ (min k 64):=Nat.pow_pos (by decide)
 have e64:(2:Nat) ^ 64=18446744073709551616:=by decide
 have b1:2 ^ (k-64)-1<18446744073709551616:=by omega
 have b2:2 ^ (min k 64)-1<18446744073709551616:=by omega
 rw [or_nat (by omega) b1,or_nat (by omega) b2,hn',fill_words H L k (by omega) (by omega) (by omega)]
 have l1:H ||| (2 ^ (k-64)-1)<2 ^ 64:=Nat.or_lt_two_pow (by omega) (by omega)
 have l2:L ||| (2 ^ (min k 64)-1)<2 ^ 64:=Nat.or_lt_two_pow (by omega) (by omega)
 rw [e64] at l1 l2
 unfold mkA
 generalize (H ||| (2 ^ (k-64)-1))=X at l1
 generalize (L ||| (2 ^ (min k 64)-1))=Y at l2
 congr 1
 ·omega
 ·omega
def loH (p:aPrefix):aPrefix:=aPrefix.mk p.fAddr (p.fLen+1)
def hiH (p:aPrefix):aPrefix:=aPrefix.mk (mkA p.fAddr.fV6 (nA p.fAddr+2 ^ (fr p-1))) (p.fLen+1)
theorem add_bit {n k:Nat} (h:cut n k=n) (hk:0<k) (i:Nat):(n+2 ^ (k-1)).testBit i=(n.testBit i || decide (i=k-1)):=by
 have e:n=2 ^ k*(n / 2 ^ k):=by unfold cut at h;rw [Nat.mul_comm];exact h.symm
 have hlt:2 ^ (k-1)<2 ^ k:=Nat.pow_lt_pow_right (by decide) (by omega)
 have h0:(n.testBit i)=(decide (k≤i)&&n.testBit i):=by
  have:=congrArg (fun m=>Nat.testBit m i) h
  simp only [cut_bit] at this
  exact this.symm
 have e2:(n+2 ^ (k-1)).testBit i=(2 ^ k*(n / 2 ^ k)+2 ^ (k-1)).testBit i:=by rw [← e]
 rw [e2,Nat.testBit_two_pow_mul_add _ hlt,Nat.testBit_two_pow,Nat.testBit_div_two_pow,h0]
 by_cases hi:i<k
 ·rw [if_pos hi,decide_eq_false (show ¬ k≤i by omega)]
  simp only [Bool.false_and,Bool.false_or]
  rw [decide_eq_decide];omega
 ·rw [if_neg hi,decide_eq_true (show k≤i by omega),show i-k+k=i from by omega,decide_eq_false (show ¬ i=k-1 by omega)]
  simp
theorem cut_two {n k:Nat} (h:cut n k=n) (hk:0<k):cut (fill n k) (k-1)=n+2 ^ (k-1):=by
 refine Nat.eq_of_testBit_eq fun i => ?_
 have h0:(n.testBit i)=(decide (k≤i)&&n.testBit i):=by
  have:=congrArg (fun m=>Nat.testBit m i) h
  simp only [cut_bit] at this
  exact this.symm
 rw [add_bit h hk,cut_bit,fill_bit]
 by_cases h1:k-1≤i
 ·rw [decide_eq_true h1]
  by_cases h2:i=k-1
  ·rw [decide_eq_true h2,decide_eq_true (show i<k by omega)];simp
  ·rw [decide_eq_false h2,decide_eq_false (show ¬ i<k by omega)];simp
 ·rw [decide_eq_false h1,decide_eq_false (show ¬ i=k-1 by omega),h0,decide_eq_false (show ¬ k≤i by omega)];simp
theorem hi_lt {p:aPrefix} (hp:pV p) (hl:p.fLen<wid p.fAddr.fV6):nA p.fAddr+2 ^ (fr p-1)<2 ^ wid p.fAddr.fV6:=by
 have hk:0<fr p:=by have:=fr_eq hp;omega
 rw [← cut_two (low_fr hp) hk]
 exact Nat.lt_of_le_of_lt (cut_le _ _) (fill_lt (aV_lt hp.addr) (fr_wid p))
theorem loH_V {p:aPrefix} (hp:pV p) (hl:p.fLen<wid p.fAddr.fV6):pV (loH p):=by
 have h0:=hp.len0
 refine⟨hp.addr,by unfold loH;simp only;omega,by unfold loH;simp only;omega,?_⟩
 unfold loH
 simp only
 refine Nat.eq_of_testBit_eq fun i => ?_
 have h:=congrArg (fun n=>Nat.testBit n i) (low_fr hp)
 simp only [cut_bit] at h
 rw [cut_bit]
 have hf:=fr_eq hp
 by_cases h1:fr p≤i
 ·rw [decide_eq_true (by omega)];simp
 ·rw [← h,decide_eq_false h1];simp
theorem hiH_V {p:aPrefix} (hp:pV p) (hl:p.fLen<wid p.fAddr.fV6):pV (hiH p):=by
 have h0:=hp.len0
 have hf:=fr_eq hp
 have hk:0<fr p:=by omega
 refine⟨mkA_V (hi_lt hp hl),by unfold hiH;simp only;omega,by unfold hiH;simp only [mkA_v6];omega,?_⟩
 unfold hiH
 simp only [mkA_v6,nA_mkA]
 have e:wid p.fAddr.fV6-(p.fLen+1).toNat=fr p-1:=by omega
 rw [e,← cut_two (low_fr hp) hk,cut_cut _ (Nat.le_refl _)]
open Classical in
noncomputable def HalvesF (p:aPrefix):aPrefix×aPrefix×Int :=
 if pV p then (if p.fLen=wid p.fAddr.fV6 then (zP,zP,9) else (loH p,hiH p,0)) else (zP,zP,1)
theorem rhalves_eq {p:aPrefix} (ha:aR p.fAddr):xref02_Halves p=some (HalvesF p):=by
 refine Tot.eq ?_
 unfold xref02_Halves HalvesF
 refine Tot.bindOf (rvalid_eq ha) ?_
 by_cases hp:pV p
 ·rw [if_pos hp]
  refine Tot.iteF (by rw [validF_iff.2 hp];rfl) (Tot.bindOf (width_eq _:xref02_width _=_) ?_)
  by_cases hl:p.fLen=wid p.fAddr.fV6
  ·rw [if_pos hl]
   exact Tot.iteT (by simpa using hl) (Tot.some rfl)
  ·rw [if_neg hl]
   have h0:=hp.len0
   have h1:=hp.len1
   have hw:=wid_le p.fAddr.fV6
   have hf:=fr_eq hp
   refine Tot.iteF (by simpa using hl) (Tot.bindT (bytes2_eq _ ▸ bytes_eq hp.addr) fun b hb => ?_)
   obtain⟨k1,k2,k3⟩:=hb
   obtain⟨N,hN⟩:∃ N:Nat,p.fLen=N:=⟨p.fLen.toNat,by omega⟩
   have e1:w64 (p.fLen+1)=p.fLen+1:=w64_id (by omega) (by omega)
   rw [e1]
   have hNl:N<8*b.length:=by omega
   have hk:N / 8<b.length:=by omega
   have hx:=k2 _ (List.getElem_mem hk)
   obtain⟨g1,g2⟩:=set_bit hx (show 7-N % 8<8 by omega)
   have eidx:w64 (Int.tdiv p.fLen 8)=((N / 8:Nat):Int):=by rw [hN];exact idx8 (by omega)
   have eshf:shrI .u8 128 (IntKind.u64.wrap (Int.tmod p.fLen 8))=((2 ^ (7-N % 8):Nat):Int):=by rw [hN];exact shift8
   rw [eidx,eshf]
   refine Tot.bindIdx (N / 8) rfl hk (Tot.bindIdx (N / 8) rfl hk (Tot.bindIdx (N / 8) rfl hk (Tot.bindIdx (N / 8) rfl hk ?_)))
   simp only [Int.toNat_natCast,List.drop_zero]
   rw [List.take_of_length_le (by rw [List.length_set];exact Nat.le_refl _)]
   have hset:=byte_set k2 (k:=N / 8) g1
   refine Tot.bindOf (frombytes_eq hset (v:=p.fAddr.fV6) (by rw [List.length_set];exact k1)) (Tot.some ?_)
   have hv:VB (b.set (N / 8) (bitI .or .u8 b[N / 8] ((2 ^ (7-N % 8):Nat):Int)))=nA p.fAddr+2 ^ (fr p-1):=by
    refine VB_ext hset (by rw [List.length_set,k1];exact hi_lt hp (by omega)) fun j hj => ?_
    rw [List.length_set] at hj ⊢
    rw [bt_set (f:=fun _=>true) hNl (fun k => ?_) j hj,add_bit (low_fr hp) (by omega),← k3,VB_bit k2 hj]
    ·by_cases hji:j=N
     ·rw [if_pos hji,decide_eq_true (by omega)];simp
     ·rw [if_neg hji,decide_eq_false (by omega)];simp
    ·rw [g2 k,getD_mem hk]
     by_cases hki:k=7-N % 8
     ·rw [if_pos hki,decide_eq_true hki];simp
     ·rw [if_neg hki,decide_eq_false hki];simp
   rw [hv]
   rfl
 ·rw [if_neg hp]
  refine Tot.iteT ?_ (Tot.some rfl)
  have:validF p=false:=by rw [← Bool.not_eq_true];exact fun e=>hp (validF_iff.1 e)
  rw [this];rfl
end Go.Proofs.YtgfoabcickjphaaGreatDoor
