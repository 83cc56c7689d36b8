/- Part of the proof that 'TopFrames' holds of every input: no condition. -/
import Derived.Test.YtalojkjpjdcibaaGreatDoorXAO
namespace Go.Top
open Go Go.Vc
theorem A04 {D:List Int} (h:By D) (hl:D.length<=2000) (a b:Int):Tot (B8w D a b) (λx=>By x):=by
 refine Tot.chk (N9 (by omega)) (Tot.ite (λ_=>Tot.some (By.cons (u8r _) By.nil)) λg => ?_);have g:=by have:=beq_eq_false_iff_ne.1 g;omega
 obtain⟨v,e1,hv⟩:=B4w a (n:=D.length) (by omega) (by omega);obtain⟨w,e2,hw⟩:=B4w (w64 (Int.tdiv b 256)) (n:=4) (by omega) (by omega);have es:w64 ((v)+1)=((v+1:Nat)):=wN (by omega);have c0:leT (v) D.length=true:=Dv (by omega) (by omega);refine Tot.bindOf e1 (Tot.bindOf (e2) (Tot.ite (λ_=>Tot.bindIdx v rfl hv (Tot.bindIdx v rfl hv (Tot.chk (decide_eq_true (List.length_set ..).symm) (Tot.some (h.set _ (u8r _)))))) λ_=>Tot.ite (λ_ => ?_) λ_=>Tot.ite (λ_ => ?_) λ_=>Tot.chk c0 (Tot.some (h.take _))))
 ·rw [es];have tl:(List.take (Int.toNat (v)) D).length=v:=by rw [List.length_take];omega
  refine Tot.chk c0 (Tot.chk (Dv (by omega) (by omega)) (Tot.chk ?_ (Tot.some ((h.take _).app (h.drop _)))));rw [tl,decide_eq_true (show(v)<((v+1:Nat):Int) by omega),Dv (i:=((v+1:Nat))) (n:=D.length) (by omega) (by omega),decide_eq_true rfl];rfl
 ·refine Tot.chk c0 (Tot.chk (N9 (by rw [List.length_take];omega)) (Tot.chk (N9 (by rw [List.length_append,List.length_take];simp  ;omega)) (Tot.chk c0 (Tot.chk (N9 (by simp  ;omega)) (Tot.some (((h.take _).app (By.cons (u8r _) By.nil)).app (h.drop _)))))))
theorem A98 (a b:Addr) (n:Int) {D:List Int} (h:By D) (hl:D.length<=100):Tot (B8u a b n D) (λ_=>True):=by
 refine Tot.bindT (R1 a) λx0 h0=>Tot.bindT (R1 b) λx1 h1=>Tot.chk (N9 (by rw [List.length_append];omega)) (Tot.chk (N9 (by simp  ;omega)) (Tot.chk (N9 (by simp  ;omega)) (Tot.bindT (Ky (((h0.1.app h1.1).app (By.cons (u8r _) (By.cons (u8r _) (By.cons (u8r _) (By.cons (u8r _) (By.cons (by simp) (By.cons (by simp) (By.cons (by simp) (By.cons (u8r _) By.nil))))))))).app h) (by simp  ;omega)).2 λ_ _=>Tot.some trivial)))
theorem A99 {n:Q6} (hm:Y1 n.2.2.2.2) (a b:Addr):Tot (B8v n a b) (λx=>By x.2.2.2.2.2):=by
 refine Tot.bindT (P':=λ_=>True) ?_ λv _=>Tot.ite (λ_=>Tot.some By.nil) λ_=>Tot.ite (λ_=>Tot.some By.nil) λ_=>Tot.ite (λ_=>Tot.some By.nil) λ_ => ?_
 ·have t:∀ k ,Tot (B1l k) (λ_=>True):=λk=>by exact Tot.ite (λ_=>Tot.some trivial) λ_=>Tot.some trivial
  refine Tot.jnR (λ_=>True) (λj hj=>Tot.ite (λ_=>Tot.some trivial) λ_=>Tot.ite (λ_=>Tot.some trivial) λ_=>Tot.ite (λ_=>Tot.some trivial) λ_=>Tot.ite (λ_=>Tot.some trivial) λ_ => ?_) λu _=>Tot.bindT (t _) λ_ _=>Tot.ite (λ_=>Tot.ite (λ_=>Tot.bindOf (rfl) (Tot.some trivial)) λ_=>Tot.some trivial) λ_=>Tot.some trivial;exact Tot.ite (λ_=>Tot.ite (λ_=>Tot.some trivial) λ_=>Tot.ite (λ_=>Tot.ite (λ_=>Tot.some trivial) λ_=>hj _ trivial) λ_=>hj _ trivial) λ_=>Tot.ite (λ_=>Tot.ite (λ_=>Tot.some trivial) λ_=>hj _ trivial) λ_=>hj _ trivial
 ·refine Tot.bindT (P':=λx  => ∃ m:Nat,x=m∧4<=m∧m<=36∧(135<=n.1->n.1<=136->20<=m)∧(n.1=137->m=36)) ?_ λx2 ⟨m,em,m0,m1,m2,m3⟩ => ?_
  ·refine Tot.ite (λg=>Tot.some ⟨4,rfl,by omega,by omega,λh=>by simp_all,λh=>by simp_all⟩) λ_=>Tot.ite (λg=>Tot.some ⟨12,rfl,by omega,by omega,λh=>by simp_all,λh=>by simp_all⟩) λ_=>Tot.ite (λg=>Tot.some ⟨36,rfl,by omega,by omega,λh=>by omega,λh=>rfl⟩) λg=>Tot.some ⟨20,rfl,by omega,by omega,λ_ _=>by omega,λh=>by simp_all⟩
  subst em;have hb:By (([(IntKind.u8.wrap n.1),0,0,0])++List.replicate (Int.toNat (m)) 0):=(By.cons (u8r _) (By.cons (by simp) (By.cons (by simp) (By.cons (by simp) By.nil)))).app (By.rep _);have hlen:(([(IntKind.u8.wrap n.1),0,0,0])++List.replicate (Int.toNat (m)) 0).length=4+m:=by
   rw [List.length_append,List.length_replicate];show 4+(Int.toNat (m:Int))=_;omega
  refine Tot.chk (by rw [decide_eq_true (show(0:Int)<(m:Int) by omega),Bool.true_and];exact N9 (by rw [hlen];omega)) ?_;simp only;generalize ([(IntKind.u8.wrap n.1),0,0,0]:List Int)++List.replicate (Int.toNat (m:Int)) 0=B0 at *;refine Tot.jnR (λu:List Int=>By u∧4<=u.length∧u.length<=40) (λj hj => ?_) λu3 h3=>Tot.jnR (λu:List Int=>By u∧4<=u.length∧u.length<=50) (λj hj => ?_) λu4 h4 => ?_
  ·refine Tot.bindT (P':=λx=>x=true->135<=n.1∧n.1<=137) (by unfold B1l;exact Tot.ite (λe=>Tot.some λe2=>⟨of_decide_eq_true e,of_decide_eq_true e2⟩) λ_=>Tot.some (nomatch ·)) λx16 h16=>Tot.ite (λe => ?_) λ_=>hj _ ⟨hb,by omega,by omega⟩;obtain⟨k0,k1⟩:=h16 e;have m20:20<=m:=by
    by_cases h7:n.1=137
    ·rw [m3 h7];decide
    ·exact m2 k0 (by omega)
   refine Tot.bindIdx 4 rfl (by omega) (Tot.bindIdx 4 rfl (by omega) (Tot.bindT (R1 _) λx20 h20=>Tot.chk (decide_eq_true (List.length_set ..)) (Tot.bindT (rng x20.length (by have:=h20.2;omega) (λk (v:List Int)=>((k:Int),v)) (λk v=>By v∧v.length=4+m) (λl=>By l∧l.length=4+m) _ rfl ⟨hb.set _ (u8r _),by rw [List.length_set];exact hlen⟩ (λk v hk hv => ?_) (λv hv => ?_)) λx hx=>hj _ ⟨hx.1,by rw [hx.2];omega,by rw [hx.2];omega⟩)))
   ·unfold A1k;have hk16:k<16:=by have:=h20.2;omega
    have e8:w64 (8+(k:Int))=((8+k:Nat):Int):=by rw [V0 (by omega) (by omega)];omega
    have e24:w64 (24+(k:Int))=((24+k:Nat):Int):=by rw [V0 (by omega) (by omega)];omega
    have hx:=h20.1.at hk;have l1:∀ x:Int,(List.set v (Int.toNat (w64 (8+(k:Int)))) x).length=v.length:=λ_=>List.length_set ..;refine T6 (decide_eq_true (by simp only;omega)) (Tot.bindIdx k rfl hk (Tot.bindIdx k rfl hk (Tot.bindIdx (8+k) e8 (by rw [hv.2];omega) (Tot.bindIdx (8+k) e8 (by rw [hv.2];omega) (Tot.ite (λg => ?_) λ_=>Tot.chk (decide_eq_true (l1 _)) (L7 _ (by rw [wN (by omega)]) ⟨hv.1.set _ hx,by rw [List.length_set];exact hv.2⟩))))));have hm:=m3 (eq_of_beq g);have l2:∀ x y:Int,(List.set (List.set v (Int.toNat (w64 (8+(k:Int)))) x) (Int.toNat (w64 (24+(k:Int)))) y).length=v.length:=λ_ _=>by rw [List.length_set,List.length_set]
    simp only [decide_eq_true (l1 _),B5];refine Tot.bindIdx (24+k) e24 (by rw [l1,hv.2];omega) (Tot.bindIdx (24+k) e24 (by rw [l1,hv.2];omega) (Tot.chk (decide_eq_true (l2 _ _)) (L7 _ (by rw [wN (by omega)]) ⟨(hv.1.set _ hx).set _ hx,by rw [l2];exact hv.2⟩)))
   ·unfold A1k;exact M1 (decide_eq_false (by simp only;omega)) (S9 hv)
  ·refine Tot.ite (λ_=>Tot.bindT (P':=λx:Int=>x=1∨x=2) (by unfold B8t;exact Tot.ite (λ_=>Tot.some (.inr rfl)) λ_=>Tot.ite (λ_=>Tot.some (.inr rfl)) λ_=>Tot.some (.inl rfl)) λx13 h13=>Tot.chk (N9 (by simp only [List.length_append,List.length_cons,List.length_nil];omega)) (Tot.chk (N9 (by simp only [List.length_append,List.length_cons,List.length_nil,hm.1];omega)) (hj _ ⟨(h3.1.app (By.cons (by omega) (By.cons (by decide) By.nil))).app hm.2,by simp only [List.length_append];omega,by simp only [List.length_append,List.length_cons,List.length_nil,hm.1];omega⟩))) λ_=>hj _ ⟨h3.1,h3.2.1,by omega⟩
  ·have s1:∀ x:Int,(List.set u4 (Int.toNat 2) x).length=u4.length:=λ_=>List.length_set ..;have s2:∀ x y:Int,(List.set (List.set u4 (Int.toNat 2) x) (Int.toNat 3) y).length=u4.length:=λ_ _=>by rw [List.length_set,List.length_set]
   refine Tot.bindT (A98 a b 58 h4.1 (by omega)) λx5 _=>Tot.bindIdx 2 rfl (by omega) (Tot.bindIdx 2 rfl (by omega) ?_);simp only [decide_eq_true (s1 _),B5];exact Tot.bindIdx 3 rfl (by rw [s1];omega) (Tot.bindIdx 3 rfl (by rw [s1];omega) (Tot.chk (decide_eq_true (s2 _ _).symm) (Tot.some ((h4.1.set _ (u8r _)).set _ (u8r _)))))
end Go.Top
namespace Go.Top
open Go Go.Vc
variable {R:I4} {l:List Int} {m:MAC} {k:Nat}
structure RuM (R:I4):Prop where
 ok:Uk R
 ne:0<R.2.2.2.1.length
 mac:∀ m∈R.2.2.2.1,Y1 m
theorem RuM.at {R:I4} (h:RuM R) {k:Nat} (hk:k<R.2.2.2.1.length):Y1 R.2.2.2.1[k]:=h.mac _ (List.getElem_mem hk)
theorem Xz:Y1 (List.replicate 6 0):=⟨rfl,By.rep _⟩
theorem A9a {T:I4} (hR:RuM R) (hT:RuM T) (hl:l.length<=9223372036854775807) (hk:k<=l.length) (x:MAC) (hm:Y1 m) (a b:Int):Tot (f58 R T l (k:Int) x m a b) (λy=>Pos l y.1∧y.2.1.length=6∧By y.2.2∧y.2.2.length<=100):=by
 refine Tot.bindT (Hy hl hk) λx0 ⟨k0,e0,l0⟩ => ?_;rw [e0];refine Tot.bindT (Bj hl l0 hR.ok.v4 _) λx1 ⟨k1,e1,l1⟩ => ?_;rw [e1];refine Tot.bindT (Hy hl l1) λx2 ⟨k2,e2,l2⟩ => ?_;rw [e2];refine Tot.bindT (Bj hl l2 hT.ok.v4 _) λx3 ⟨k3,e3,l3⟩ => ?_;refine Tot.bindOf (rfl) (Tot.bindOf (rfl) ?_);refine Tot.jnR (λu  => u.1.length=6∧Pos l u.2.1∧Y1 u.2.2.2.1∧Y1 u.2.2.2.2.2.1) (λj hj => ?_) λu ⟨h1,⟨k4,e4,l4⟩,h3,h4⟩ => ?_
 ·rw [e3];exact draw hl (n:=3) rfl (by omega) (by omega) l3 λv k5 _ hk5=>Tot.ite (λ_=>Tot.bindIdx 0 rfl hT.ne (Tot.bindIdx 0 rfl hT.ne (hj _ ⟨(hT.at hT.ne).1,⟨k5,rfl,hk5⟩,hm,hT.at hT.ne⟩))) λ_=>hj _ ⟨rfl,⟨k5,rfl,hk5⟩,hm,Xz⟩
 ·refine Tot.jnR (λw  => Pos l w.1∧Y1 w.2.2.1∧Y1 w.2.2.2.2.1) (λj hj => ?_) λw ⟨⟨k6,e6,l6⟩,g2,g3⟩ => ?_
  ·rw [e4];exact draw hl (n:=8) rfl (by omega) (by omega) l4 λv k5 _ hk5=>Tot.ite (λ_=>hj _ ⟨⟨k5,rfl,hk5⟩,h3,h4⟩) λ_=>hj _ ⟨⟨k5,rfl,hk5⟩,h3,h4⟩
  ·refine Tot.bindT (A03 g2 g3) λx8 ⟨b8,n8⟩ => ?_;rw [e6];exact draw hl (n:=2) rfl (by omega) (by omega) l6 λv k5 _ hk5=>Tot.ite (λ_=>Tot.chk (by exact N9 (by rw [List.length_append,List.length_replicate,show Int.toNat 18=18 from rfl];omega)) (Tot.some ⟨⟨k5,rfl,hk5⟩,h1,b8.app (By.rep _),by rw [List.length_append,List.length_replicate,show Int.toNat 18=18 from rfl];omega⟩)) λ_=>Tot.some ⟨⟨k5,rfl,hk5⟩,h1,b8,Nat.le_trans n8 (by simp)⟩
theorem A9b {T:I4} (hR:RuM R) (hT:RuM T) (hl:l.length<=9223372036854775807) (hk:k<=l.length) (x:MAC) (hm:Y1 m) (a b:Int):Tot (f59 R T l (k:Int) x m a b) (λy=>Pos l y.1∧y.2.1.length=6∧By y.2.2∧y.2.2.length<=1600):=by
 refine draw hl (n:=9) rfl (by omega) (by omega) hk λv0 k0 hv0 l0=>Tot.bindOf (Ht (by omega)) (Tot.bindT (Bj hl l0 hR.ok.v6 _) λx2 ⟨k2,e2,l2⟩ => ?_);rw [e2];refine draw hl (n:=9) rfl (by omega) (by omega) l2 λv3 k3 hv3 l3=>Tot.bindOf (Ht (by omega)) (Tot.bindT (Bj hl l3 hT.ok.v6 _) λx5 ⟨k5,e5,l5⟩ => ?_);rw [e5];refine draw hl (n:=2) rfl (by omega) (by omega) l5 λv6 k6 hv6 l6=>Tot.bindT (Ta _).2 λx7 h7 => ?_;refine Tot.jnR (λu  => u.1.length=6∧Pos l u.2.1∧Y1 u.2.2.2.2.2.2.2) (λj hj => ?_) λu ⟨h1,⟨k8,e8,l8⟩,h3⟩ => ?_
 ·refine draw hl (n:=6) rfl (by omega) (by omega) l6 λv k9 _ l9=>Tot.ite (λ_=>draw hl (n:=8) rfl (by omega) (by omega) l9 λv k10 _ l10=>Tot.bindT (Bj hl l10 hR.ok.v6 _) λy ⟨k11,e11,l11⟩=>Tot.bindIdx 0 rfl hT.ne (hj _ ⟨(hT.at hT.ne).1,⟨k11,e11,l11⟩,Xz⟩)) λ_=>Tot.ite (λ_=>draw hl (n:=2) rfl (by omega) (by omega) l9 λv k10 hv l10=>Tot.bindIdx v rfl hv (hj _ ⟨h7,⟨k10,rfl,l10⟩,Xz⟩)) λ_=>Tot.ite (λ_=>Tot.bindT (Bj hl l9 hR.ok.v6 _) λy ⟨k11,e11,l11⟩=>Tot.bindT (Ta _).2 λz hz=>hj _ ⟨hz,⟨k11,e11,l11⟩,Xz⟩) λ_=>hj _ ⟨h7,⟨k9,rfl,l9⟩,Xz⟩
 ·refine Tot.jnR (λw  => Pos l w.1∧Y1 w.2) (λj hj=>Tot.ite (λ_ => ?_) λ_=>hj _ ⟨⟨k8,e8,l8⟩,h3⟩) λw ⟨⟨k9,e9,l9⟩,g2⟩ => ?_
  ·rw [e8];exact draw hl (n:=8) rfl (by omega) (by omega) l8 λv k10 _ l10=>Tot.ite (λ_=>Tot.bindOf (Zn (n:=7) (by omega)) (hj _ ⟨⟨k10,rfl,l10⟩,rfl,By.cons (by simp) (By.cons (by simp) (By.cons (by simp) (By.cons (by simp) (By.cons (by simp) (By.cons (by simp) By.nil)))))⟩)) λ_=>hj _ ⟨⟨k10,rfl,l10⟩,hm⟩
  ·rw [e9];refine draw hl (n:=9) rfl (by omega) (by omega) l9 λv k10 hv l10=>Tot.bindOf (Ht (by omega)) (Tot.bindT (A99 (n:=(u.2.2.2.1,u.2.2.2.2.1,u.2.2.2.2.2.1,u.2.2.2.2.2.2.1,w.2)) g2 _ _) λx12 h12 => ?_);refine Tot.jnR (λz  => Pos l z.1∧By z.2.2.2.2.2) (λj hj=>draw hl (n:=9) rfl (by omega) (by omega) l10 λv k11 _ l11=>Tot.ite (λ_=>hj _ ⟨⟨k11,rfl,l11⟩,h12⟩) λ_=>hj _ ⟨⟨k11,rfl,l11⟩,h12⟩) λz ⟨p1,p2⟩=>Tot.bindT (Ng p2) λy hy=>Tot.some ⟨p1,h1,hy.1,hy.2⟩
theorem A9c:(List.range 400).all (λn=>match f82 (n:Int) with | some m=>m.length==6 | none=>false)=true:=by kernel_rfl
theorem A31 {n:Nat} (h:n<400):Tot (f82 (n:Int)) (λm=>m.length=6):=by
 have:=M6 A9c h;cases e:f82 (n) with
 | none=>simp_all
 | some m=>rw [e] at this;exact Tot.some (by simp_all)
theorem B3l (hl:l.length<=9223372036854775807) (hk:k<=l.length) {fr:Frame} (h:Km fr) (hd:fr.2.2.2.2.length<=2000):Tot (f61 fr l (k:Int)) (λx=>Pos l x.1∧Km x.2):=by
 obtain⟨h1,h2,h3⟩:=h;refine draw hl (n:=20) rfl (by omega) (by omega) hk λv k1 hv l1=>Tot.ite (λ_=>draw hl (n:=300) rfl (by omega) (by omega) l1 λw k2 hw l2=>Tot.bindT (A31 (by omega)) λm hm=>Tot.some ⟨⟨k2,rfl,l2⟩,h1,hm,h3⟩) λ_ => ?_;refine Tot.ite (λ_=>draw hl (n:=4094) rfl (by omega) (by omega) l1 λw k2 hw l2=>Tot.some ⟨⟨k2,rfl,l2⟩,h1,h2,h3⟩) λ_ => ?_;refine Tot.ite (λ_=>draw hl (n:=60000) rfl (by omega) (by omega) l1 λw k2 hw l2=>Tot.some ⟨⟨k2,rfl,l2⟩,h1,h2,h3⟩) λ_ => ?_;refine Tot.ite (λ_=>draw hl (n:=32) rfl (by omega) (by omega) l1 λw k2 hw l2=>Tot.some ⟨⟨k2,rfl,l2⟩,rfl,h2,h3⟩) λ_ => ?_;refine Tot.ite (λ_=>draw hl (n:=256) rfl (by omega) (by omega) l1 λw k2 hw l2=>Tot.some ⟨⟨k2,rfl,l2⟩,rfl,h2,h3⟩) λ_ => ?_;refine Tot.ite (λ_=>Tot.bindOf (rfl) (Tot.some ⟨⟨k1,rfl,l1⟩,rfl,h2,h3⟩)) λ_ => ?_;refine Tot.ite (λ_=>draw hl (n:=60) rfl (by omega) (by omega) l1 λw k2 hw l2=>draw hl (n:=1024) rfl (by omega) (by omega) l2 λu k3 hu l3=>Tot.bindT (A04 h3 hd _ _) λD hD=>Tot.some ⟨⟨k3,rfl,l3⟩,h1,h2,hD⟩) λ_ => ?_;refine Tot.ite (λ_=>draw hl (n:=2) rfl (by omega) (by omega) l1 λw k2 hw l2 => ?_) λ_ => ?_
 ·have e:w64 (1500+(w))=((1500+w:Nat)):=by rw [V0 (by omega) (by omega)];omega
  simp  [e];refine Tot.chk ?_ (Tot.some ⟨⟨k2,rfl,l2⟩,h1,h2,By.rep _⟩);unfold Cm V2;simp;exact⟨by omega,show(1500)+(w)<=((4294967296):Int) by omega⟩
 ·exact Tot.ite (λ_=>draw hl (n:=400) rfl (by omega) (by omega) l1 λw k2 hw l2=>Tot.bindT (A31 hw) λm hm=>Tot.some ⟨⟨k2,rfl,l2⟩,hm,h2,h3⟩) λ_=>Tot.some ⟨⟨k1,rfl,l1⟩,h1,h2,h3⟩
end Go.Top
namespace Go.Top
open Go Go.Vc
variable {r:List I4}
theorem A5v {R:I4} (hR:RuM R) (hr:∀ R∈r,RuM R) (h0:0<r.length) (h1:r.length<=100) {l:List Int} (hl:l.length<=9223372036854775807) {k:Nat} (hk:k<=l.length):Tot (f27 R r l (k:Int)) (λx=>Pos l x.1∧Km x.2):=by
 refine Tot.bindIdx 0 rfl hR.ne (draw hl (n:=r.length) rfl h0 (by omega) hk λv k1 hv l1=>Tot.bindIdx v rfl hv ?_);have hT:=hr _ (List.getElem_mem hv);generalize r[v]=T at hT;refine draw hl (n:=T.2.2.2.1.length) rfl hT.ne (by have:=hT.ok.ms;omega) l1 λw k2 hw l2=>Tot.bindIdx w rfl hw ?_;have hdst:=(hT.at hw).1;refine Tot.jnR (λu  => Pos l u.1∧Y1 u.2) (λj hj => ?_) λu5 ⟨⟨k3,e3,l3⟩,hm⟩ => ?_
 ·refine Tot.jnR (λu  => (u.1=true->1<R.2.2.2.1.length)∧Pos l u.2) (λj' hj'=>Tot.ite (λg=>draw hl (n:=2) rfl (by omega) (by omega) l2 λz k4 _ l4=>hj' _ ⟨λ_=>by have:=of_decide_eq_true g;omega,⟨k4,rfl,l4⟩⟩) λ_=>hj' _ ⟨(nomatch ·),⟨k2,rfl,l2⟩⟩) λu ⟨g1,g2⟩=>Tot.ite (λg=>Tot.bindIdx 1 rfl (g1 g) (hj _ ⟨g2,hR.at (g1 g)⟩)) λ_=>hj _ ⟨g2,hR.at hR.ne⟩
 ·refine Tot.jnR (λu  => Pos l u.1∧u.2.1.length=6∧By u.2.2.2.2∧u.2.2.2.2.length<=1600) (λj hj => ?_) λu6 ⟨⟨k4,e4,l4⟩,g2,g3,g4⟩ => ?_
  ·rw [e3];refine draw hl (n:=5) rfl (by omega) (by omega) l3 λz k4 _ l4=>Tot.ite (λ_ => ?_) λ_ => ?_
   ·refine draw hl (n:=9) rfl (by omega) (by omega) l4 λz k5 hz l5=>Tot.bindOf (Zo (by omega)) (Tot.bindT (Hy hl l5) λx13 ⟨k6,e6,l6⟩ => ?_);rw [e6];refine draw hl (n:=3) rfl (by omega) (by omega) l6 λz k7 hz l7=>Tot.bindIdx z rfl hz (Tot.bindT (Qw hl l7) λx16 ⟨b1,b2,p1⟩=>Tot.bindT (Ng b1) λx17 ⟨c1,c2⟩=>hj _ ⟨p1,hdst,c1,c2⟩)
   ·refine Tot.jnR (λ_=>True) (λj' hj'=>Tot.ite (λ_=>hj' _ trivial) λ_=>hj' _ trivial) λu _=>Tot.ite (λ_=>Tot.bindT (A9a hR hT hl l4 _ hm _ _) λx ⟨q1,q2,q3,q4⟩=>hj _ ⟨q1,q2,q3,Nat.le_trans q4 (by simp)⟩) λ_=>Tot.ite (λ_=>Tot.bindT (A9b hR hT hl l4 _ hm _ _) λx ⟨q1,q2,q3,q4⟩=>hj _ ⟨q1,q2,q3,q4⟩) λ_ => ?_;refine draw hl (n:=9) rfl (by omega) (by omega) l4 λz k5 hz l5=>Tot.bindOf (Ht (by omega)) (draw hl (n:=9) rfl (by omega) (by omega) l5 λz k6 hz l6=>Tot.bindOf (Ht (by omega)) (draw hl (n:=3) rfl (by omega) (by omega) l6 λz k7 hz l7=>Tot.bindIdx z rfl hz (Tot.bindT (Qw hl l7) λx16 ⟨b1,b2,p1⟩=>Tot.bindT (Ng b1) λx17 ⟨c1,c2⟩=>hj _ ⟨p1,hdst,c1,c2⟩)))
  ·rw [e4];exact Tot.bindT (B3l hl l4 ⟨g2,hm.1,g3⟩ (by show u6.2.2.2.2.length<=2000;omega)) λx hx=>Tot.some hx
theorem A5w {l:List B1} (h:Row l) (hr:W8 l r):∀ R∈r,RuM R:=λR hR=>by
 have ok:=(Nf h hr).2 R hR;obtain⟨j,hj⟩:=List.getElem?_of_mem hR;have hlt:j<l.length:=by rw [<- hr.len];exact(List.getElem?_eq_some_iff.1 hj).1
 have hq:=List.getElem?_eq_getElem hlt;obtain⟨c,hc⟩:=hr.get j _ hq;have hc:r[j]? = some (X3 l[j] c):=hc;rw [hj] at hc;cases hc;have hl:=h.1;have by':∀ n ,n<256->Y1 (N0 n):=λn hn=>⟨rfl,By.cons (by simp) (By.cons (by simp) (By.cons (by simp) (By.cons (by simp) (By.cons (by simp) (By.cons ⟨by omega,by omega⟩ By.nil)))))⟩;refine⟨ok,(h.pmacs hq).1,λm hm => ?_⟩;rcases K9 (h.2 j _ hq) with e | e
 ·rw [show(X3 l[j] c).2.2.2.1=pmacs l[j] from rfl,e,List.mem_singleton] at hm;rw [hm];exact by' _ (by omega)
 ·rw [show(X3 l[j] c).2.2.2.1=pmacs l[j] from rfl,e] at hm;simp   at hm;rcases hm with e | e<;>rw [e]<;>exact by' _ (by omega)
theorem Pe.steps {f:C6} {a:Int} {ls:List Int} {e:Int} (h:Pe f a ls e):∃ P:Nat->Int,P 0=a∧P ls.length=e∧∀ k (hk:k<ls.length),∃ n:Nat,ls[k]=n∧∃ l,f.2.1[n]? = some l∧wk f n=true∧At l (P k) (P (k+1)):=by
 induction h with
 | nil=>exact⟨λ_=>a,rfl,rfl,λk hk=>absurd hk (Nat.not_lt_zero _)⟩
 | @snoc ls e e' n l h h1 h2 h3 ih =>
  obtain⟨P,p0,p1,p2⟩:=ih;refine⟨λk=>if k<=ls.length then P k else e',by simp [p0],if_neg (by simp),λk hk => ?_⟩;rw [List.length_append] at hk;simp   at hk
  by_cases hlt:k<ls.length
  ·obtain⟨m,em,l',q⟩:=p2 k hlt;refine⟨m,by simp [*],l',?_⟩;simp ;rw [if_pos (Nat.le_of_lt hlt),if_pos (show k+1<=ls.length by omega)];omega
  ·have hk:k=ls.length:=by omega
   subst hk;refine⟨n,by simp,l,h1,h2,?_⟩;simp only;rw [if_pos (Nat.le_refl _),if_neg (by omega),p1];omega
end Go.Top
namespace Go.Top
open Go Go.Vc
variable {l:List Int}
theorem A5x {p10:Int×(Int×(C6×(List (Int×K1))))} {x17:Int×(Hd×K1)} (hf:FV p10.2.2.1) {a e:Int} (hw:Pe p10.2.2.1 a x17.2.1.2.1 e) (hl:x17.2.1.2.1.length<=100):Tot (loopF (C15 p10 x17) (a,0)) (λy=>y = .inl e):=by
 obtain⟨P,p0,p1,p2⟩:=hw.steps;rw [<- p0];refine rng x17.2.1.2.1.length (by omega) (λk (_)=>(P k,(k:Int))) (λ_ _=>True) _ () rfl trivial (λk _ hk _ => ?_) (λ_ _ => ?_)
 ·obtain⟨n,en,l,h1,h2,h3⟩:=p2 k hk;have hn:=(List.getElem?_eq_some_iff.1 h1).1;have hv:=hf.lk _ (List.mem_of_getElem? h1);refine T6 (decide_eq_true (by omega)) (Tot.bindIdx k rfl hk ?_);rw [en];refine Tot.bindOf (A5i hf hn) (M1 (by simp_all) (Tot.bindOf (A9 h1) ?_));have es:w64 ((k)+1)=((k+1:Nat)):=wN (by omega);rcases h3 with ⟨e1,e2⟩ | ⟨e1,e2⟩
  ·exact T6 (by simp [*]) (L7 () (by simp [*]) trivial)
  ·exact M1 (beq_eq_false_iff_ne.2 λh=>hv.ne (h.symm.trans e1.symm)) (T6 (by simp_all) (L7 () (by simp [*]) trivial))
 ·exact M1 (decide_eq_false (by simp)) (S9 (by rw [p1]))
theorem C2f (l:List (Int×K1)):Tot (Eo (λx=>f26 x) l) (λ_=>True):=by
 induction l with
 | nil=>exact Tot.some trivial
 | cons p l ih=>exact Tot.bindOf (rfl) (Tot.bindT ih λ_ _=>Tot.some trivial)
theorem FV.flip {f:C6} (h:FV f) {i:Nat} {b:Bool}:FV (f.1,f.2.1,f.2.2.1.set i b,f.2.2.2):=⟨h.s,h.l,by rw [List.length_set];exact h.dn,h.dd,h.lk⟩
theorem sw4 {n:Nat} {p:B1} (h:L3 n p):0<=p.2.1∧p.2.1<4:=by
 obtain⟨o,sw,spi,two,vc,h1,h2,h3,h4,rfl⟩:=h;exact⟨Int.natCast_nonneg _,by show(sw:Int)<4;omega⟩
theorem A05 {d:A6} (hm:J4 d) {r:List I4} {b:List A7} (hr:W8 (D9 (A8 d)) r) (hb:b.Perm (T5 (D9 (A8 d)))) (h1:1<=(D9 (A8 d)).length) (hl:l.length<=9223372036854775807) {k:Nat} (hk:k<=l.length) {F:C6} (hF:FV F) (h4:4<=F.1) (B:List (Int×K1)) :
  Tot (loopF (B8y l hd6 (r,b,true,d)) (0,(k:Int),F,B)) (λy=>y = .inl ()):=by
 have h:=hm.row;have e4:=hm.lan4;have e6:=hm.lan6;have whose:=fun {j:Nat} {q:B1} (hq:(D9 (A8 d))[j]? = some q) {m:MAC} (hmq:m∈pmacs q)=>A5u hm hq hmq;generalize D9 (A8 d)=P at *;have hlen:=hr.len;have rm:=A5w h hr;have ro:=(Nf h hr).1;refine rng 40 (by omega) (λi (b)=>((i:Int),((b.1):Int),b.2.1,b.2.2)) (λ_ b=>b.1<=l.length∧FV b.2.1∧4<=b.2.1.1) _ (k,F,B) rfl ⟨hk,hF,h4⟩ (λi s hi hs => ?_) (λs hs => ?_)
 ·obtain⟨g1,g2,g3⟩:=hs;have ei:w64 ((i)+1)=((i+1:Nat)):=wN (by omega);refine T6 (decide_eq_true (by omega)) (Tot.bindOf (rfl) (Tot.ite (λ_ => ?_) λ_=>B57 rfl));refine Tot.jnR (λu  => Pos l u.1) (λj hj=>draw hl (n:=8) rfl (by omega) (by omega) g1 λv k1 _ l1=>Tot.ite (λ_=>Tot.ite (λgz => ?_) λ_=>L7 (k1,s.2.1,s.2.2) (by rw [ei]) ⟨l1,g2,g3⟩) λ_=>Tot.ite (λ_=>Tot.bindT (C2f _) λ_ _=>hj _ ⟨k1,rfl,l1⟩) λ_=>hj _ ⟨k1,rfl,l1⟩) λu ⟨k2,e2,l2⟩ => ?_
  ·have gz:=of_decide_eq_true gz;simp  at gz;have dn:=g2.dn;have l24:=g2.l;refine Tot.chk (N9 (by simp ;omega)) (draw hl (n:=s.2.1.2.2.1.length) rfl (by omega) (by omega) l1 λw k3 hw l3=>Tot.bindIdx w rfl hw (Tot.bindIdx w rfl hw (Tot.bindIdx w rfl hw (Tot.bindIdx w rfl hw (Tot.chk (decide_eq_true (List.length_set ..).symm) (L7 (k3,_,s.2.2) (by rw [ei]) ⟨l3,g2.flip,g3⟩))))))
  ·rw [e2];refine draw hl (n:=r.length) rfl (by omega) (by omega) l2 λw k3 hw l3=>Tot.bindIdx w rfl hw ?_;have hp:=List.getElem?_eq_getElem (show w<P.length by omega);generalize P[w]=p at hp;obtain⟨c,hc⟩:=hr.get w p hp;have er:r[w]=X3 p c:=(List.getElem?_eq_some_iff.1 hc).2;have sw:=sw4 (h.2 w p hp);rw [er];refine Tot.bindT (A5v (rm _ (List.mem_of_getElem? hc)) rm (by omega) ro hl l3) λx15 ⟨⟨k4,e4',l4⟩,fo⟩ => ?_;rw [e4,e6];refine Tot.bindT (A97 h hr hb hp g2 ⟨sw.1,by omega⟩ fo _) λx17 ⟨s1,s2⟩=>Tot.ite (λg => ?_) λg => ?_
   ·obtain⟨t1,t2⟩:=s1 (by simpa using g);exact M1 (by simp [*]) (M1 (by rw [t2];rfl) (L7 (k4,s.2.1,mput (Ty.eqT (.int .i64)) u.2 p.1 x17.2.2) (by rw [ei,e4'];rfl) ⟨l4,g2,g3⟩))
   ·obtain⟨j,q,hq,G⟩:=s2 (by simpa using g);obtain⟨c1,_,f1⟩:=Sx h hr hp;obtain⟨c2,_,f2⟩:=Sx h hr hq;rw [G.goes];refine Tot.bindOf f1 (Tot.bindOf f2 (M1 rfl (Tot.bindOf (whose hq G.dst) (M1 (bne_self_eq_false _) ?_))));have hs':=G.same;rw [hs'];refine Tot.bindOf (whose hp G.src) (M1 (bne_self_eq_false _) (M1 (beq_eq_false_iff_ne.2 G.other) (M1 (by simp) (M1 (bne_self_eq_false _) (M1 (by rw [G.vlan];rfl) (Tot.bindT (A5x (p10:=((i:Int),((s.1:Nat):Int),s.2.1,s.2.2)) (x17:=x17) g2 G.way.1 G.way.2) λy hy => ?_))))));rw [hy];exact M1 (bne_self_eq_false _) (Tot.bindOf (Sw ..) (M1 (by rw [G.live];rfl) (L7 (k4,s.2.1,mput (Ty.eqT (.int .i64)) u.2 p.1 x17.2.2) (by rw [ei,e4'];rfl) ⟨l4,g2,g3⟩)))
 ·unfold B8y;exact M1 rfl (S9 rfl)
theorem C01 (hl:l.length<=9223372036854775807) (m:Int):f5 l hd6 m pw R5=some true:=by
 obtain⟨k0,d,hk,hm,h8⟩:=B9h hl;obtain⟨r,b,h7,hr,hb⟩:=C00 hm m;have hf:=hm.few;have h1:1<=(D9 (A8 d)).length:=by
  have h2:=hf.2.1
  match ho:A8 d,h2 with
  | q :: ms,_ =>
   have:=(hm.own q (by rw [ho];exact List.mem_cons_self ..)).few.1;simp only [D9,List.map_cons,List.flatten_cons,List.length_append];omega
 have hlen:=hr.len;have hP:=hm.row.1;refine Tot.eq ?_;unfold f5;have aw:Tot ((f15 hd6 m pw R5).bind λx=>some x) (λy=>y=true):=Tot.bindOf (A8y m) (Tot.some rfl);refine Tot.bindT (P':=λ_=>True) ⟨_,rfl,trivial⟩ λx0 _=>Tot.ite (λ_=>aw) λ_=>Tot.bindOf (show f6 l=some () from rfl) (Tot.bindOf h8 (Tot.bindOf h7 (M1 rfl (Tot.bindT (B6o hl hk) λF ⟨⟨hF,h4⟩,kF,eF,lF⟩ => ?_))));refine Tot.bindT (P':=λ_=>True) (rng r.length (by omega) (λi (b:List (Int×K1))=>((i:Int),b)) (λ_ _=>True) _ [] rfl trivial (λi s hi _ => ?_) (λs _ => ?_)) λB _ => ?_
 ·unfold B8x;exact T6 (decide_eq_true (by simp only;omega)) (Tot.bindIdx i rfl hi (Tot.bindOf (show f13 _ _=some _ from rfl) (L7 _ (by rw [wN (by omega)]) trivial)))
 ·unfold B8x;exact M1 (decide_eq_false (by simp only;omega)) (S9 trivial)
 ·rw [eF];refine Tot.bindT (A05 hm hr hb h1 hl lF hF h4 B) λy hy => ?_;rw [hy];simp only [D1];exact aw
end Go.Top
