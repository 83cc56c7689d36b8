/- The sizes of codes, which messages the code takes for valid, in plain Lean. -/
import Derived.Test.YtplbaenjbihekaaGreatDoorPureZA
import Derived.Test.YtplbaenjbihekaaGreatDoorVcMP
namespace Go.Proofs.YtplbaenjbihekaaGreatDoor
open Go Go.Vc
theorem B0h {x:E5} (h:aV x):Tot (A08 x) (fun b=>8*b.length=wid x.fV6):=by
 unfold A08;refine Tot.bindOf (C0w h) ?_;refine Tot.iteF rfl ?_;refine Tot.jnR (fun m:Int=>∃ k:Nat,m=k∧8*k=wid x.fV6∧1≤k∧k≤16) (fun j hj => ?_) (fun m hm => ?_)
 ·refine Tot.ite (fun e=>hj _ ⟨16,rfl,by simp [wid,e],by omega,by omega⟩) (fun e=>hj _ ⟨4,rfl,by simp [wid,e],by omega,by omega⟩)
 ·obtain⟨k,rfl,hk,h1,h2⟩:=hm;refine Tot.chk (by simp;show k≤4294967296;omega) ?_;refine Tot.bindLoop (fun s:Int×List Int×E5=>s.2.1.length=k ∧ -1≤s.1∧s.1<k) (fun s=>(s.1+1).toNat) (fun b=>b.length=k) ⟨by simp,by rw [H1 (by omega) (by omega)];show -1≤(k:Int)-1;omega,by rw [H1 (by omega) (by omega)];show(k:Int)-1<k;omega⟩ (fun s hs => ?_) (fun b hb=>Tot.some (by rw [hb];exact hk));obtain⟨i,b,a⟩:=s;obtain⟨g1,g2,g3⟩:=hs;simp only at g1 g2 g3;unfold A4m;refine Tot.ite (fun e => ?_) (fun e=>Tot.out g1);have hi:0≤i:=by simpa using e
  refine Tot.bindIdx i.toNat (by omega) (by show i.toNat<b.length;omega) ?_;refine Tot.bindIdx i.toNat (by omega) (by show i.toNat<b.length;omega) ?_;have e1:w64 (i-1)=i-1:=H1 (by omega) (by omega);refine Tot.next ⟨by simpa using g1,?_,?_⟩ ?_
  ·show -1≤w64 (i-1);rw [e1];omega
  ·show w64 (i-1)<k;rw [e1];omega
  ·show(w64 (i-1)+1).toNat<(i+1).toNat;rw [e1];omega
theorem B0v {x:E5} (h:aV x):Tot (Q0 x) (fun b=>8*b.length=wid x.fV6):=(B68 h).mono fun b hb=>hb.1
def pc (p:A2):Nat:=1+(p.fLen.toNat+7) / 8
def clen (v:Bool):List A2→Nat
 | []=>0
 | p :: l=>(if p.fAddr.fV6=v then pc p else 0)+clen v l
theorem B3k (v:Bool):∀ (l m:List A2),clen v (l++m)=clen v l+clen v m
 | [],m=>by simp [clen]
 | p :: l,m=>by simp only [List.cons_append,clen,B3k v l m];omega
theorem C2w {p:A2} (h:pV p):pc p≤17∧(p.fLen.toNat+7) / 8≤wid p.fAddr.fV6 / 8∧w64 (Int.tdiv (w64 (p.fLen+7)) 8)=(((p.fLen.toNat+7) / 8:Nat):Int):=by
 have h0:=h.len0;have h1:=h.len1;have hw:wid p.fAddr.fV6=32∨wid p.fAddr.fV6=128:=by unfold wid;split<;>simp
 have e1:w64 (p.fLen+7)=p.fLen+7:=H1 (by omega) (by omega);have e2:Int.tdiv (p.fLen+7) 8=(((p.fLen.toNat+7) / 8:Nat):Int):=by
  rw [Int.tdiv_eq_ediv_of_nonneg (by omega)];omega
 refine⟨by unfold pc;omega,by omega,?_⟩;rw [e1,e2];exact H1 (by omega) (by omega)
theorem A4b (v:Bool):∀ (l:List A2),(∀ p∈l,pV p)→clen v l≤17*l.length
 | [],_=>by simp [clen]
 | p :: l,h=>by
  have h1:=(C2w (h p (List.mem_cons_self ..))).1;have h2:=A4b v l fun q hq=>h q (List.mem_cons_of_mem _ hq);simp only [clen,List.length_cons];split<;>omega
theorem B3l {v:Bool}:∀ {l:List A2},clen v l=0↔∀ p∈l,p.fAddr.fV6≠v
 | []=>by simp [clen]
 | p :: l=>by
  have ih:=B3l (v:=v) (l:=l);simp only [clen,List.mem_cons,forall_eq_or_imp];rw [← ih]
  by_cases h:p.fAddr.fV6=v
  ·simp [h,pc]
  ·simp [h]
theorem B1f {f:E5→Option (List Int)} (hf:∀ x,aV x→Tot (f x) (fun b=>8*b.length=wid x.fV6)) {x:A2} (hx:pV x) {v:Bool} {b:List Int} {α:Type} {P:α→Prop} {j:List Int→Option α} {N:Nat} (hb:b.length≤N) (hN:N≤100000)
  (hj:∀ b':List Int,b'.length=b.length+(if x.fAddr.fV6=v then pc x else 0)→Tot (j b') P) :
  Tot (if (x.fAddr.fV6==v)=true then
   chk (decide ((b++([IntKind.u8.wrap x.fLen]:List Int)).length≤LIM)) <|
   (f x.fAddr).bind fun r42 =>
   chk (decide (0≤(w64 (Int.tdiv (w64 (x.fLen+(7:Int))) (8:Int))))&&decide (0≤(w64 (Int.tdiv (w64 (x.fLen+(7:Int))) (8:Int))).toNat)&&decide ((w64 (Int.tdiv (w64 (x.fLen+(7:Int))) (8:Int))).toNat≤r42.length)) <|
   chk (decide (((b++([IntKind.u8.wrap x.fLen]:List Int))++((r42.take ((w64 (Int.tdiv (w64 (x.fLen+(7:Int))) (8:Int))).toNat)).drop 0)).length≤LIM)) <|
   j ((b++([IntKind.u8.wrap x.fLen]:List Int))++((r42.take ((w64 (Int.tdiv (w64 (x.fLen+(7:Int))) (8:Int))).toNat)).drop 0))
   else j b) P:=by
 obtain⟨h1,h2,h3⟩:=C2w hx;refine Tot.ite (fun e => ?_) (fun e=>hj b (by rw [if_neg (by simpa using e)];rfl));have e':x.fAddr.fV6=v:=by simpa using e
 refine Tot.chk (decide_eq_true (show _≤4294967296 by simp;omega)) ?_;refine Tot.bindT (hf _ hx.addr) fun r hr => ?_;rw [h3];have hle:(p:Nat)→p=(x.fLen.toNat+7) / 8→p≤r.length:=fun p hp=>by omega
 have hk:(x.fLen.toNat+7) / 8≤r.length:=hle _ rfl;refine Tot.chk (by rw [Bool.and_eq_true,Bool.and_eq_true];exact⟨⟨decide_eq_true (by omega),decide_eq_true (Nat.zero_le _)⟩,decide_eq_true (show(((x.fLen.toNat+7) / 8:Nat):Int).toNat≤r.length by rw [Int.toNat_natCast];exact hk)⟩) ?_;have hl:((b++([IntKind.u8.wrap x.fLen]:List Int))++((r.take (((x.fLen.toNat+7) / 8:Nat):Int).toNat).drop 0)).length=b.length+pc x:=by
  simp only [List.drop_zero,List.length_append,List.length_take,List.length_cons,List.length_nil,Int.toNat_natCast,pc];omega
 refine Tot.chk (decide_eq_true (show _≤4294967296 by rw [hl];omega)) ?_;exact hj _ (by rw [hl,if_pos e'])
theorem A66 {l:List A2} (hl:∀ p∈l,pV p) (h256:l.length≤256) (v:Bool):Tot (J9 l v) (fun b=>b.length=clen v l):=by
 unfold J9;refine Tot.bindRng l.length (fun k (b:List Int)=>((k:Int),b)) (fun k b=>b.length=clen v (l.take k)) (fun b=>b.length=clen v l) [] rfl (by simp [clen]) (fun k b hk hb => ?_) (fun b hb => ?_) (fun b hb=>Tot.some hb)
 ·unfold A0s;refine Tot.iteT (by simpa using hk) ?_;refine Tot.bindIdx k rfl hk ?_;have hx:=hl _ (List.getElem_mem hk);have hle:=A4b v (l.take k) fun p hp=>hl p (List.mem_of_mem_take hp);have hlt:(l.take k).length=k:=by simp;omega
  refine Tot.jn ?_;refine B1f (f:=Q0) (fun x=>B0v) hx (v:=v) (b:=b) (j:=fun m38=>some (Sum.inr (w64 ((k:Int)+1),m38))) (N:=17*256) (by show b.length≤_;omega) (by omega) fun b' hb' => ?_;refine Tot.step b' (by show(w64 ((k:Int)+1),b')=_;rw [C0 hk (by omega)]) ?_;rw [F5 hk,B3k,← hb,hb'];simp [clen]
 ·unfold A0s;refine Tot.iteF (by simp) ?_;exact Tot.last (by rw [List.take_length] at hb;exact hb)
theorem B0w {l:List A2} (hl:∀ p∈l,pV p) (h256:l.length≤256) (v:Bool) {b0:List Int} (hb0:b0.length≤10000):Tot (A09 b0 l v) (fun b=>b.length=b0.length+clen v l):=by
 unfold A09;refine Tot.bindRng l.length (fun k (b:List Int)=>((k:Int),b)) (fun k b=>b.length=b0.length+clen v (l.take k)) (fun b=>b.length=b0.length+clen v l) b0 rfl (by simp [clen]) (fun k b hk hb => ?_) (fun b hb => ?_) (fun b hb=>Tot.some hb)
 ·unfold A0n;refine Tot.iteT (by simpa using hk) ?_;refine Tot.bindIdx k rfl hk ?_;have hx:=hl _ (List.getElem_mem hk);have hle:=A4b v (l.take k) fun p hp=>hl p (List.mem_of_mem_take hp);have hlt:(l.take k).length=k:=by simp;omega
  refine Tot.jn ?_;refine B1f (f:=A08) (fun x=>B0h) hx (v:=v) (b:=b) (j:=fun m38=>some (Sum.inr (w64 ((k:Int)+1),m38))) (N:=10000+17*256) (by show b.length≤_;omega) (by omega) fun b' hb' => ?_;refine Tot.step b' (by show(w64 ((k:Int)+1),b')=_;rw [C0 hk (by omega)]) ?_;rw [F5 hk,B3k,← Nat.add_assoc,← hb,hb'];simp [clen]
 ·unfold A0n;refine Tot.iteF (by simp) ?_;exact Tot.last (by rw [List.take_length] at hb;exact hb)
theorem A9t {l:List A2} (hl:∀ p∈l,pV p) (h256:l.length≤256) (v:Bool):Tot (Q4 l v) (fun b=>b.length=clen v l):=by
 have:=B0w hl h256 v (b0:=[]) (by simp);have e:Q4 l v=A09 [] l v:=rfl;rw [e];exact this.mono fun b hb=>by simpa using hb
-- joining
def hd (n:Nat):Nat:=if 255<n then 4 else 3
def jlen:List A3→Nat
 | []=>0
 | x :: l=>hd x.fData.length+x.fData.length+jlen l
theorem A2k:∀ (l m:List A3),jlen (l++m)=jlen l+jlen m
 | [],m=>by simp [jlen]
 | x :: l,m=>by simp only [List.cons_append,jlen,A2k l m];omega
theorem A7e {l m:List A3} (h:l.Perm m):jlen l=jlen m:=by
 induction h with
 | nil=>rfl
 | cons x _ ih=>simp only [jlen,ih]
 | swap x y l=>simp only [jlen];omega
 | trans _ _ ih1 ih2=>exact ih1.trans ih2
structure uok (x:A3):Prop where
 flags:0≤x.fFlags∧x.fFlags≤255
 type:0≤x.fType∧x.fType≤255
 data:x.fData.length≤65535
theorem B8o:∀ {l:List A3},(∀ x∈l,uok x)→jlen l≤70000*l.length
 | [],_=>by simp [jlen]
 | x :: l,h=>by
  have h1:=(h x (List.mem_cons_self ..)).data;have h2:=B8o fun y hy=>h y (List.mem_cons_of_mem _ hy);simp only [jlen,List.length_cons,hd];split<;>omega
theorem C15 {l:List A3} (h:∀ x∈l,uok x) (hl:l.length≤100):Tot (A1d l) (fun r=>(r.2=0↔jlen l≤2048)∧(jlen l≤2048→r.1.length=jlen l)∧r.1.length≤2048):=by
 unfold A1d;refine Tot.bindRng l.length (fun k (_:Unit)=>(k:Int)) (fun k _=>True) (fun x=>x = .inr ()) () rfl trivial (fun k b hk _ => ?_) (fun b _ => ?_) (fun x hx => ?_)
 ·unfold W5;refine Tot.iteT (by simpa using hk) ?_;refine Tot.bindIdx k rfl hk ?_;have hu:=h _ (List.getElem_mem hk);refine Tot.jnR (fun m=>m=false) (fun j hj => ?_) (fun m hm => ?_)
  ·simp only [G8,Option.bind_some,decide_eq_true hu.flags.1,decide_eq_true hu.flags.2,decide_eq_true hu.type.1,decide_eq_true hu.type.2,Bool.and_self,Bool.not_true];refine Tot.iteF rfl ?_;refine hj _ ?_;simp only [Bool.false_or];rw [decide_eq_false];have:=hu.data;omega
  ·subst hm;refine Tot.iteF rfl ?_;exact Tot.step () (C0 hk (by omega)) trivial
 ·unfold W5;refine Tot.iteF (by simp) ?_;exact Tot.last rfl
 ·subst hx;simp only;refine Tot.bindRng l.length (fun k (b:List Int)=>((k:Int),b)) (fun k b=>b.length=jlen (l.take k)∧b.length≤2048) (fun x=>(x = .inl ()∧2048<jlen l)∨∃ b,x = .inr b∧b.length=jlen l∧jlen l≤2048) [] rfl (by simp [jlen]) (fun k b hk hb => ?_) (fun b hb => ?_) (fun x hx => ?_)
  ·unfold W6;refine Tot.iteT (by simpa using hk) ?_;refine Tot.bindIdx k rfl hk ?_;have hu:=h _ (List.getElem_mem hk);have hd':=hu.data;refine Tot.jnR (fun m:List Int=>m.length=b.length+hd l[k].fData.length) (fun j hj => ?_) (fun m hm => ?_)
   ·refine Tot.ite (fun e => ?_) (fun e => ?_)
    ·have e':255<l[k].fData.length:=by have:=of_decide_eq_true e;omega
     refine Tot.chk (decide_eq_true (show _≤4294967296 by simp;omega)) (hj _ ?_);simp [hd,e']
    ·have e':¬ 255<l[k].fData.length:=by have:=of_decide_eq_false e;omega
     refine Tot.chk (decide_eq_true (show _≤4294967296 by simp;omega)) (hj _ ?_);simp [hd,e']
   ·have hlen:(m++l[k].fData).length=jlen (l.take (k+1)):=by
     rw [F5 hk,A2k,← hb.1,List.length_append,hm];simp [jlen];omega
    have hh:hd l[k].fData.length≤4:=by unfold hd;split<;>omega
    refine Tot.chk (decide_eq_true (show _≤4294967296 by rw [List.length_append];omega)) ?_;refine Tot.ite (fun e => ?_) (fun e => ?_)
    ·refine Tot.stop (.inl ⟨rfl,?_⟩);have e':2048<(m++l[k].fData).length:=by have:=of_decide_eq_true e;omega
     rw [hlen] at e';have:jlen l=jlen (l.take (k+1))+jlen (l.drop (k+1)):=by rw [← A2k,List.take_append_drop]
     omega
    ·have e':¬ 2048<(m++l[k].fData).length:=by have:=of_decide_eq_false e;omega
     refine Tot.step _ (by show(w64 ((k:Int)+1),_)=_;rw [C0 hk (by omega)]) ⟨hlen,by omega⟩
  ·unfold W6;refine Tot.iteF (by simp) ?_;rw [List.take_length] at hb;exact Tot.last (.inr ⟨b,rfl,hb.1,by omega⟩)
  ·rcases hx with ⟨rfl,hx⟩ | ⟨b,rfl,h1,h2⟩
   ·refine Tot.some ⟨⟨fun e=>by simp at e,fun e=>by omega⟩,fun e=>by omega,by simp⟩
   ·refine Tot.some ⟨⟨fun _=>h2,fun _=>rfl⟩,fun _=>h1,by show b.length≤2048;omega⟩
theorem B9t {l:List A3} (h:∀ x∈l,uok x) (hl:l.length≤100):Tot (A3b l) (fun r=>(r.2=0↔jlen l≤2048)∧(jlen l≤2048→r.1.length=jlen l)):=by
 unfold A3b;refine Tot.bindRng l.length (fun k (_:Unit)=>(k:Int)) (fun k _=>True) (fun x=>x = .inr ()) () rfl trivial (fun k b hk _ => ?_) (fun b _ => ?_) (fun x hx => ?_)
 ·unfold A1l;refine Tot.iteT (by simpa using hk) ?_;refine Tot.bindIdx k rfl hk ?_;have hu:=h _ (List.getElem_mem hk);refine Tot.iteF ?_ ?_
  ·have h1:=hu.flags;have h2:=hu.type;have h3:=hu.data;simp only [Bool.or_eq_false_iff,decide_eq_false_iff_not];omega
  ·exact Tot.step () (C0 hk (by omega)) trivial
 ·unfold A1l;refine Tot.iteF (by simp) ?_;exact Tot.last rfl
 ·subst hx;simp only;refine Tot.bindRng l.length (fun k (b:List Int)=>((k:Int),b)) (fun k b=>b.length=jlen (l.take k)) (fun b=>b.length=jlen l) [] rfl (by simp [jlen]) (fun k b hk hb => ?_) (fun b hb => ?_) (fun b hb => ?_)
  ·unfold A1m;refine Tot.iteT (by simpa using hk) ?_;refine Tot.bindIdx k rfl hk ?_;have hu:=h _ (List.getElem_mem hk);have hd':=hu.data;have hbl:b.length≤7000000:=by
    have h1:=B8o (l:=l.take k) fun y hy=>h y (List.mem_of_mem_take hy);have h2:(l.take k).length≤100:=by simp;omega
    omega
   refine Tot.jnR (fun m:List Int=>m.length=b.length+hd l[k].fData.length) (fun j hj => ?_) (fun m hm => ?_)
   ·refine Tot.ite (fun e => ?_) (fun e => ?_)
    ·have e':255<l[k].fData.length:=by have:=of_decide_eq_true e;omega
     refine Tot.chk (decide_eq_true (show _≤4294967296 by simp;omega)) (hj _ ?_);simp [hd,e']
    ·have e':¬ 255<l[k].fData.length:=by have:=of_decide_eq_false e;omega
     refine Tot.chk (decide_eq_true (show _≤4294967296 by simp;omega)) (hj _ ?_);simp [hd,e']
   ·have hlen:(m++l[k].fData).length=jlen (l.take (k+1)):=by
     rw [F5 hk,A2k,← hb,List.length_append,hm];simp [jlen];omega
    have hh:hd l[k].fData.length≤4:=by unfold hd;split<;>omega
    refine Tot.chk (decide_eq_true (show _≤4294967296 by rw [List.length_append];omega)) ?_;refine Tot.step _ (by show(w64 ((k:Int)+1),_)=_;rw [C0 hk (by omega)]) hlen
  ·unfold A1m;refine Tot.iteF (by simp) ?_;rw [List.take_length] at hb;exact Tot.last hb
  ·refine Tot.ite (fun e => ?_) (fun e => ?_)
   ·have e':2048<b.length:=by have:=of_decide_eq_true e;omega
    exact Tot.some ⟨⟨fun e=>by simp at e,fun e=>by omega⟩,fun e=>by omega⟩
   ·have e':¬ 2048<b.length:=by have:=of_decide_eq_false e;omega
    exact Tot.some ⟨⟨fun _=>by omega,fun _=>rfl⟩,fun _=>hb⟩
theorem sortU {cmp:A3→A3→Option Int} (hc:∀ x y,cmp x y=K4 x.fType y.fType) {l:List A3} (hl:l.length≤100):Tot (sortF l cmp) (fun r=>r.Perm l):=by
 obtain⟨r,h1,h2,_⟩:=B4h (xs:=l) (cmp:=cmp) (fun x y=>if x.fType<y.fType then -1 else if y.fType<x.fType then 1 else 0) (fun x _ y _=>by rw [hc,A0g])
  (fun x _=>by simp) (fun x _ y _ z _ h1 h2=>by
   repeat' split at h1
   all_goals repeat' split at h2
   all_goals repeat' split
   all_goals omega) (fun x _ y _ z _ h1 h2=>by
   repeat' split at h1
   all_goals repeat' split at h2
   all_goals repeat' split
   all_goals omega) (by omega)
 exact⟨r,h1,h2⟩
theorem uk {t:Int} {d:List Int} (h1:0≤ilk gv0 t∧ilk gv0 t≤255) (h2:0≤t∧t≤255) (h3:d.length≤65535):uok (A3.mk (ilk gv0 t) t d):=⟨h1,h2,h3⟩
theorem C16 {t:Int} {d:List Int}:L8 true t d=some [A3.mk (ilk gv0 t) t d]:=by
 unfold L8;simp [jn,chk,LIM]
theorem C17 {t:Int} {d:List Int}:L8 false t d=some []:=rfl
theorem C2e {t:Int} {d:List Int} {l:List A3} (hl:l.length≤100):F4 true t d l=some (l++[A3.mk (ilk gv0 t) t d]):=by
 unfold F4;have:l.length+1≤LIM:=by show _≤4294967296;omega
 simp [jn,chk,this]
theorem A6m {t:Int} {d:List Int} {l:List A3}:F4 false t d l=some l:=rfl
theorem put1 (v:Int):Tot (R4 [v]) (fun b=>b.length=4):=by
 unfold R4;rw [F7];simp only [T7];simp [idx,H1,chk,LIM];rw [F7];simp [T7];exact⟨_,rfl,rfl⟩
theorem path0:T6 []=some []:=by unfold T6;rw [F7];simp [R0]
theorem com0:I3 []=some []:=by unfold I3;rw [F7];simp [I2]
theorem lar0:R5 []=some []:=by unfold R5;rw [F7];simp [P7]
theorem B3m {b l:List Int} (hb:b.length≤100000) (hl:l.length≤2000):Tot (R3 b l) (fun r=>r.length=b.length+4*l.length):=by
 unfold R3;refine Tot.bindRng l.length (fun k (r:List Int)=>((k:Int),r)) (fun k r=>r.length=b.length+4*k) (fun r=>r.length=b.length+4*l.length) b rfl rfl (fun k r hk hr => ?_) (fun r hr => ?_) (fun r hr=>Tot.some hr)
 ·unfold T5;refine Tot.iteT (by simpa using hk) (Tot.bindIdx k rfl hk ?_);refine Tot.chk (limB (by simp;omega)) ?_;exact Tot.step _ (Prod.ext (C0 hk (by omega)) rfl) (by simp;omega)
 ·unfold T5;exact Tot.iteF (by simp) (Tot.last hr)
def plen (p:List B4):Nat:=2*p.length+4*nAs p
theorem C18 {p:List B4} (h1:p.length≤64) (h2:nAs p≤64):Tot (T6 p) (fun b=>b.length=plen p):=by
 unfold T6;have part:∀ k,nAs (p.take k)≤64:=fun k=>by
  have:=A7m (p.take k) (p.drop k);rw [List.take_append_drop] at this;omega
 refine Tot.bindRng p.length (fun k (r:List Int)=>((k:Int),r)) (fun k r=>r.length=2*k+4*nAs (p.take k)) (fun r=>r.length=plen p) [] rfl (by simp [nAs]) (fun k r hk hr => ?_) (fun r hr => ?_) (fun r hr=>Tot.some hr)
 ·unfold R0;have hsn:nAs (p.take (k+1))=nAs (p.take k)+p[k].fASNs.length:=by rw [F5 hk,A7m];simp [nAs]
  have:=part k;have:=part (k+1);refine Tot.iteT (by simpa using hk) (Tot.bindIdx k rfl hk ?_);refine Tot.jnR (fun _=>True) (fun j hj=>Tot.ite (fun _=>hj _ trivial) (fun _=>hj _ trivial)) (fun m _ => ?_);refine Tot.chk (limB (by simp;omega)) ?_;refine Tot.bindT (B3m (by simp;omega) (by omega)) fun q hq => ?_;exact Tot.step _ (Prod.ext (C0 hk (by omega)) rfl) (by rw [hq,hsn];simp;omega)
 ·unfold R0;rw [List.take_length] at hr;exact Tot.iteF (by simp) (Tot.last hr)
theorem C2f {l:List B5} (hl:l.length≤64):Tot (I3 l) (fun b=>b.length=4*l.length):=by
 unfold I3;refine Tot.bindRng l.length (fun k (r:List Int)=>((k:Int),r)) (fun k r=>r.length=4*k) (fun r=>r.length=4*l.length) [] rfl rfl (fun k r hk hr => ?_) (fun r hr => ?_) (fun r hr=>Tot.some hr)
 ·unfold I2;refine Tot.iteT (by simpa using hk) (Tot.bindIdx k rfl hk ?_);refine Tot.bindT (B3m (b:=r) (by omega) (by simp)) fun q hq => ?_;exact Tot.step _ (Prod.ext (C0 hk (by omega)) rfl) (by rw [hq];simp;omega)
 ·unfold I2;exact Tot.iteF (by simp) (Tot.last hr)
theorem C2g {l:List E7} (hl:l.length≤64):Tot (R5 l) (fun b=>b.length=12*l.length):=by
 unfold R5;refine Tot.bindRng l.length (fun k (r:List Int)=>((k:Int),r)) (fun k r=>r.length=12*k) (fun r=>r.length=12*l.length) [] rfl rfl (fun k r hk hr => ?_) (fun r hr => ?_) (fun r hr=>Tot.some hr)
 ·unfold P7;refine Tot.iteT (by simpa using hk) (Tot.bindIdx k rfl hk ?_);refine Tot.bindT (B3m (b:=r) (by omega) (by simp)) fun q hq => ?_;exact Tot.step _ (Prod.ext (C0 hk (by omega)) rfl) (by rw [hq];simp;omega)
 ·unfold P7;exact Tot.iteF (by simp) (Tot.last hr)
def op (c:Bool) (n:Nat):Nat:=if c=true then hd n+n else 0
theorem A7n {c:Bool} {t:Int} {d:List Int} {l:List A3} (hl:l.length≤90) (h:∀ y∈l,uok y) (h1:0≤ilk gv0 t∧ilk gv0 t≤255) (h2:0≤t∧t≤255) (h3:d.length≤65535) :
  Tot (F4 c t d l) (fun r=>(∀ y∈r,uok y)∧r.length≤l.length+1∧jlen r=jlen l+op c d.length):=by
 cases c with
 | true =>
  refine Tot.of (C2e (by omega)) ⟨fun y hy => ?_,by simp,by rw [A2k];simp [jlen,op]⟩;rcases List.mem_append.1 hy with hy | hy
  ·exact h y hy
  ·rw [List.mem_singleton.1 hy];exact uk h1 h2 h3
 | false=>exact Tot.of A6m ⟨h,by omega,by simp [op]⟩
def alen (a:C2):Nat:=4+op true (plen a.fPath)+op (!a.fNext.fV6) 4+op (a.fMED != -1) 4+op (a.fPref != -1) 4+op (decide ((0:Int)<(a.fCommunities.length:Int))) (4*a.fCommunities.length)+op (decide ((0:Int)<(a.fLarge.length:Int))) (12*a.fLarge.length)+op (a.fOTC != -1) 4+jlen a.fOther
theorem nz_b {x:E5} (h:x≠zA):((x.fV6==false)&&((x.fHi==0)&&((x.fLo==0)&&true)))=false:=by
 rw [Bool.eq_false_iff];intro e;simp at e;exact h (by cases x;simp_all [zA])
theorem aOK.uok {a:C2} (h:aOK a) {x:A3} (hx:x∈a.fOther):Go.Proofs.YtplbaenjbihekaaGreatDoor.uok x:=by
 obtain⟨h1,h2,h3⟩:=h.one x hx;exact⟨by rw [h2];decide,⟨by omega,h1.2⟩,by omega⟩
theorem B9u {a:C2} (hs:Sm a) (hv:attB a=true) (ho:a.fOrigin ≠ -1) (hz:a.fNext≠zA):Tot (L9 a) (fun r=>(∀ y∈r.1,uok y)∧r.1.length≤16∧jlen r.1=alen a):=by
 have h:=(B29 hs hv).1;unfold L9;refine Tot.bindOf (B6j hs) ?_;rw [hv];refine Tot.iteF rfl ?_;have e0:(a.fOrigin != -1)=true:=by simpa using ho
 rw [e0];refine Tot.bindOf C16 ?_;refine Tot.bindT (C18 h.pth.1 h.pth.2) fun b2 h2 => ?_;rw [Bool.true_or];have hp:=h.pth;have hc:=h.com;have hl:=h.lar;have hpl:plen a.fPath≤1000:=by unfold plen;omega
 refine Tot.bindT (A7n (by simp) (fun y hy=>by rw [List.mem_singleton.1 hy];exact uk (by decide) (by decide) (by simp)) (by decide) (by decide) (by omega)) fun r2 g2 => ?_;refine Tot.bindT (B0h h.next) fun b3 h3 => ?_;have e3:((!a.fNext.fV6)&&(!((a.fNext.fV6==false)&&((a.fNext.fHi==(0:Int))&&((a.fNext.fLo==(0:Int))&&true))))) = !a.fNext.fV6:=by rw [nz_b hz];simp
 rw [e3];have hb3:b3.length≤16∧op (!a.fNext.fV6) b3.length=op (!a.fNext.fV6) 4:=by
  cases hv6:a.fNext.fV6 with
  | true=>rw [hv6] at h3;simp [wid] at h3;exact⟨by omega,rfl⟩
  | false=>rw [hv6] at h3;simp [wid] at h3;exact⟨by omega,by rw [show b3.length=4 by omega]⟩
 simp only [List.length_singleton] at g2;refine Tot.bindT (A7n (by omega) g2.1 (by decide) (by decide) (by omega)) fun r3 g3 => ?_;refine Tot.bindT (put1 _) fun b4 h4 => ?_;refine Tot.bindT (A7n (by omega) g3.1 (by decide) (by decide) (by omega)) fun r4 g4 => ?_;refine Tot.bindT (put1 _) fun b5 h5 => ?_;refine Tot.bindT (A7n (by omega) g4.1 (by decide) (by decide) (by omega)) fun r5 g5 => ?_;refine Tot.bindT (C2f h.com) fun b6 h6 => ?_;refine Tot.bindT (A7n (by omega) g5.1 (by decide) (by decide) (by omega)) fun r6 g6 => ?_;refine Tot.bindT (C2g h.lar) fun b7 h7 => ?_;refine Tot.bindT (A7n (by omega) g6.1 (by decide) (by decide) (by omega)) fun r7 g7 => ?_;refine Tot.bindT (put1 _) fun b8 h8 => ?_;refine Tot.bindT (A7n (by omega) g7.1 (by decide) (by decide) (by omega)) fun r8 g8 => ?_;have hoth:=h.oth;refine Tot.bindRng a.fOther.length (fun k (_:Unit)=>((k:Int),r8++a.fOther.take k)) (fun _ _=>True) (fun x=>x=r8++a.fOther) () (by simp) trivial (fun k _ hk _ => ?_) (fun _ _ => ?_) (fun x hx => ?_)
 ·unfold K9;refine Tot.iteT (by simpa using hk) (Tot.bindIdx k rfl hk ?_);have hd':=(h.one _ (List.getElem_mem hk)).2.2;refine Tot.bindOf (x:=a.fOther[k].fData) (by unfold A10;rw [limB (by omega)];rfl) ?_;refine Tot.chk (limB (by simp;omega)) ?_;exact Tot.step () (by rw [F5 hk];exact Prod.ext (C0 hk (by omega)) (List.append_assoc _ _ _)) trivial
 ·unfold K9;refine Tot.iteF (by simp) ?_;exact Tot.last (by rw [List.take_of_length_le (Nat.le_refl _)])
 subst hx;refine Tot.bindT (sortU (cmp:=fun x y=>K5 x y) (fun x y=>by unfold K5;rw [A0g];rfl) (by simp;omega)) fun r hr => ?_;refine Tot.chk (decide_eq_true hr.length_eq) ?_;refine Tot.some ⟨fun y hy => ?_,?_,?_⟩
 ·rcases List.mem_append.1 (hr.mem_iff.1 hy) with hy | hy
  ·exact g8.1 y hy
  ·exact h.uok hy
 ·rw [hr.length_eq];simp;omega
 ·rw [A7e hr,A2k,g8.2.2,g7.2.2,g6.2.2,g5.2.2,g4.2.2,g3.2.2,g2.2.2,hb3.2,h2,h4,h5,h6,h7,h8];simp [jlen,hd,alen]
theorem C19:Tot (L9 noD) (fun r=>r.1=[]):=by
 have hz:aV zA:=⟨⟨by decide,by decide⟩,.inr (by decide)⟩;unfold L9;refine Tot.bindOf B6b ?_;refine Tot.iteF rfl ?_;refine Tot.bindOf (show L8 (noD.fOrigin != -1) 1 _=_ from C17) ?_;refine Tot.bindOf path0 ?_;refine Tot.bindOf (show F4 ((noD.fOrigin != -1) || decide ((0:Int)<(noD.fPath.length:Int))) 2 [] _=_ from A6m) ?_;refine Tot.bindT (B0h (show aV noD.fNext from hz)) fun b3 h3 => ?_;refine Tot.bindOf (show F4 ((!noD.fNext.fV6)&&(!((noD.fNext.fV6==false)&&((noD.fNext.fHi==(0:Int))&&((noD.fNext.fLo==(0:Int))&&true))))) 3 b3 _=_ from A6m) ?_;refine Tot.bindT (put1 _) fun b4 h4 => ?_;refine Tot.bindOf (show F4 (noD.fMED != -1) 4 b4 _=_ from A6m) ?_;refine Tot.bindT (put1 _) fun b5 _ => ?_;refine Tot.bindOf (show F4 (noD.fPref != -1) 5 b5 _=_ from A6m) ?_;refine Tot.bindOf com0 ?_;refine Tot.bindOf (show F4 (decide ((0:Int)<(noD.fCommunities.length:Int))) 8 [] _=_ from A6m) ?_;refine Tot.bindOf lar0 ?_;refine Tot.bindOf (show F4 (decide ((0:Int)<(noD.fLarge.length:Int))) 32 [] _=_ from A6m) ?_;refine Tot.bindT (put1 _) fun b6 _ => ?_;refine Tot.bindOf (show F4 (noD.fOTC != -1) 35 b6 _=_ from A6m) ?_;refine Tot.bindOf (x:=([]:List A3)) (by rw [F7];simp [K9,noD]) ?_;refine Tot.bindT (sortU (cmp:=fun x y=>K5 x y) (fun x y=>by unfold K5;rw [A0g];rfl) (by simp)) fun r hr => ?_;refine Tot.chk (decide_eq_true hr.length_eq) ?_;exact Tot.some hr.eq_nil
def aw (c:Nat):Nat:=if c=0 then 0 else hd (3+c)+(3+c)
def aa (a:C2) (c:Nat):Nat:=alen a+(if a.fNext.fV6=true then hd (21+c)+(21+c) else 0)
structure VW (l:List A2):Prop where
 len:l.length≤256
 val:∀ p∈l,pV p
 att:aw (clen true l)≤2048
 all:4+clen false l+aw (clen true l)≤4077
structure VA (a:C2) (l:List A2):Prop where
 ok:attB a=true
 org:a.fOrigin ≠ -1
 nz:a.fNext≠zA
 len:l.length≤256
 val:∀ p∈l,pV p
 fam:∀ p∈l,p.fAddr.fV6=a.fNext.fV6
 att:aa a (clen true l)≤2048
 all:4+aa a (clen true l)+clen false l≤4077
open Classical in
noncomputable def bW (l:List A2):Bool:=decide (VW l)
open Classical in
noncomputable def bA (a:C2) (l:List A2):Bool:=decide (VA a l)
theorem C1a {l:List A2}:bW l=true↔VW l:=by unfold bW;simp
theorem C1b {a:C2} {l:List A2}:bA a l=true↔VA a l:=by unfold bA;simp
theorem A54 {o:Option Bool} {p:Prop} {b:Bool} (h:Tot o (fun r=>r=true↔p)) (hb:b=true↔p):o=some b:=by
 obtain⟨r,e,hr⟩:=h;rw [e];congr 1;rw [Bool.eq_iff_iff,hr,hb]
def uW (l:List A2):A7:=A7.mk l noD []
def uAa (a:C2) (l:List A2):A7:=A7.mk [] a l
theorem B5c {l:List A2} (hl:∀ p∈l,aR p.fAddr) (hn:l.length≤100000):Tot (K2 l) (fun b=>b=true↔¬ ∀ p∈l,pV p):=by
 unfold K2 A20;refine Tot.bind (Tot.bindRng l.length (fun k (_:Unit)=>(k:Int)) (fun k _=>∀ p∈l.take k,pV p) (fun x=>(x = .inr ()∧∀ p∈l,pV p)∨∃ k:Nat,x = .inl k∧¬ ∀ p∈l,pV p) () rfl (by simp) (fun k b hk hb => ?_) (fun b hb => ?_) (fun x hx => ?_))
 ·unfold R9;refine Tot.iteT (by simpa using hk) ?_;refine Tot.bindIdx k rfl hk ?_;refine Tot.bindOf (x:=!validF l[k]) (by unfold A3m;rw [B4k (hl _ (List.getElem_mem hk))];rfl) ?_;refine Tot.ite (fun e => ?_) (fun e => ?_)
  ·refine Tot.stop (.inr ⟨k,rfl,fun h => ?_⟩);have:=h _ (List.getElem_mem hk);rw [← R8] at this;rw [this] at e;cases e
  ·refine Tot.step () (C0 hk (by omega)) ?_;intro p hp;rw [F5 hk] at hp;rcases List.mem_append.1 hp with hp | hp
   ·exact hb p hp
   ·rw [List.mem_singleton.1 hp];exact R8.1 (by simpa using e)
 ·unfold R9;refine Tot.iteF (by simp) ?_;rw [List.take_length] at hb;exact Tot.last (.inl ⟨rfl,hb⟩)
 ·rcases hx with ⟨rfl,hx⟩ | ⟨k,rfl,hx⟩
  ·exact Tot.some (Tot.some (by simp;exact hx))
  ·exact Tot.some (Tot.some (by simp only [Int.natCast_nonneg,decide_true,true_iff];exact hx))
theorem C2h {u:A7} {l:List A2} (hn:l.length≤100000):Tot (O6 l u) (fun b=>b=true↔¬ ∀ p∈l,p.fAddr.fV6=u.fAttrs.fNext.fV6):=by
 unfold O6 A07;refine Tot.bind (Tot.bindRng l.length (fun k (_:Unit)=>(k:Int)) (fun k _=>∀ p∈l.take k,p.fAddr.fV6=u.fAttrs.fNext.fV6) (fun x=>(x = .inr ()∧∀ p∈l,p.fAddr.fV6=u.fAttrs.fNext.fV6)∨∃ k:Nat,x = .inl k∧¬ ∀ p∈l,p.fAddr.fV6=u.fAttrs.fNext.fV6) () rfl (by simp) (fun k b hk hb => ?_) (fun b hb => ?_) (fun x hx => ?_))
 ·unfold O5;refine Tot.iteT (by simpa using hk) ?_;refine Tot.bindIdx k rfl hk ?_;refine Tot.bindOf (x:=l[k].fAddr.fV6 != u.fAttrs.fNext.fV6) rfl ?_;refine Tot.ite (fun e => ?_) (fun e => ?_)
  ·refine Tot.stop (.inr ⟨k,rfl,fun h => ?_⟩);have:=h _ (List.getElem_mem hk);rw [this] at e;simp at e
  ·refine Tot.step () (C0 hk (by omega)) ?_;intro p hp;rw [F5 hk] at hp;rcases List.mem_append.1 hp with hp | hp
   ·exact hb p hp
   ·rw [List.mem_singleton.1 hp];simpa using e
 ·unfold O5;refine Tot.iteF (by simp) ?_;rw [List.take_length] at hb;exact Tot.last (.inl ⟨rfl,hb⟩)
 ·rcases hx with ⟨rfl,hx⟩ | ⟨k,rfl,hx⟩
  ·exact Tot.some (Tot.some (by simp;exact hx))
  ·exact Tot.some (Tot.some (by simp only [Int.natCast_nonneg,decide_true,true_iff];exact hx))
theorem B6m {u:A7} {J:Nat} (hl:Tot (A01 u) (fun L=>(∀ y∈L,uok y)∧L.length≤100∧jlen L=J)) (hW:∀ p∈u.fWithdraw,pV p) (hW2:u.fWithdraw.length≤256) (hA:∀ p∈u.fAnnounce,pV p) (hA2:u.fAnnounce.length≤256) :
  Tot (A4t u) (fun r=>r.2=true↔J≤2048∧4+clen false u.fWithdraw+J+clen false u.fAnnounce≤4077):=by
 unfold A4t;refine Tot.bindT hl fun L hL => ?_;refine Tot.bindT (C15 hL.1 hL.2.1) fun r2 h2 => ?_;refine Tot.bindT (A9t hW hW2 false) fun r3 h3 => ?_;have c3:=A4b false u.fWithdraw hW;have c4:=A4b false u.fAnnounce hA;refine Tot.bindT (show Tot (A5i _) (fun b=>b.length=2) from Tot.chk (decide_eq_true (show _≤4294967296 by simp)) (Tot.some rfl)) fun r4 h4 => ?_;refine Tot.chk (decide_eq_true (show _≤4294967296 by rw [List.length_append];omega)) ?_;refine Tot.bindT (show Tot (A5j (r4++r3) _) (fun b=>b.length=4+clen false u.fWithdraw) from Tot.chk (decide_eq_true (show _≤4294967296 by simp;omega)) (Tot.some (by simp;omega))) fun r6 h6 => ?_;refine Tot.chk (decide_eq_true (show _≤4294967296 by rw [List.length_append];omega)) ?_;refine Tot.bindT (B0w hA hA2 false (b0:=r6++r2.1) (by rw [List.length_append];omega)) fun r8 h8 => ?_;rw [List.length_append] at h8;refine Tot.some ?_;simp only [Bool.and_eq_true,beq_iff_eq,decide_eq_true_eq];rw [h2.1,hL.2.2];constructor
 ·rintro⟨g1,g2⟩;have:=h2.2.1 (by rw [hL.2.2];exact g1);rw [hL.2.2] at this;exact⟨g1,by omega⟩
 ·rintro⟨g1,g2⟩;have:=h2.2.1 (by rw [hL.2.2];exact g1);rw [hL.2.2] at this;exact⟨g1,by omega⟩
theorem sortL {l:List A3} (hl:l.length≤100):Tot (K3 l) (fun r=>r.Perm l) :=
 sortU (cmp:=fun x y=>A0x x y) (fun x y=>by unfold A0x;rw [A0g];rfl) hl
theorem C3e {l:List A2} (hl:∀ p∈l,pV p) (h256:l.length≤256):Tot (A01 (uW l)) (fun L=>(∀ y∈L,uok y)∧L.length≤100∧jlen L=aw (clen true l)):=by
 unfold A01;refine Tot.bindT C19 fun r hr => ?_;rw [hr];refine Tot.jn ?_;refine Tot.iteF rfl ?_;have hc:=A4b true l hl;refine Tot.bindT (A9t hl h256 true) fun b hb => ?_;refine Tot.jnR (fun L=>(∀ y∈L,uok y)∧L.length≤1∧jlen L=aw (clen true l)) (fun j hj => ?_) (fun L hL => ?_)
 ·refine Tot.ite (fun e => ?_) (fun e => ?_)
  ·have e':0<b.length:=by have:=of_decide_eq_true e;omega
   refine Tot.chk (decide_eq_true (show _≤4294967296 by simp;omega)) ?_;refine Tot.chk (decide_eq_true (show _≤4294967296 by simp)) ?_;refine hj _ ⟨fun y hy => ?_,by simp,?_⟩
   ·simp at hy;subst hy;exact⟨by simp,by simp,by simp;omega⟩
   ·have:clen true l≠0:=by omega
    simp [jlen,aw,this,hb];rw [show 3+clen true l=clen true l+1+1+1 by omega]
  ·have e':¬ 0<b.length:=by have:=of_decide_eq_false e;omega
   refine hj _ ⟨fun y hy=>by simp at hy,by simp,?_⟩;have:clen true l=0:=by omega
   simp [jlen,aw,this]
 ·refine Tot.bindT (sortL (by omega)) fun r hr => ?_;refine Tot.chk (decide_eq_true hr.length_eq) ?_;have e:(r.drop 0).take L.length=r:=by rw [← hr.length_eq];simp
  rw [e];exact Tot.some ⟨fun y hy=>hL.1 y (hr.mem_iff.1 hy),by rw [hr.length_eq];omega,by rw [A7e hr];exact hL.2.2⟩
theorem C3f {a:C2} (hs:Sm a) (hv:attB a=true) (ho:a.fOrigin ≠ -1) (hz:a.fNext≠zA) {l:List A2} (hl:∀ p∈l,pV p) (h256:l.length≤256) (h0:l≠[]):Tot (A01 (uAa a l)) (fun L=>(∀ y∈L,uok y)∧L.length≤100∧jlen L=aa a (clen true l)):=by
 unfold A01;refine Tot.bindT (B9u hs hv ho hz) fun r hr => ?_;have hc:=A4b true l hl;have hlen:decide ((0:Int)<((uAa a l).fAnnounce.length:Int))=true:=by
  have:0<l.length:=List.length_pos_iff.2 h0;exact decide_eq_true (by show(0:Int)<(l.length:Int);omega)
 refine Tot.jnR (fun L=>(∀ y∈L,uok y)∧L.length≤17∧jlen L=aa a (clen true l)) (fun j hj => ?_) (fun L hL => ?_)
 ·rw [hlen,Bool.true_and];refine Tot.ite (fun e => ?_) (fun e => ?_)
  ·have e':a.fNext.fV6=true:=e;refine Tot.bindT (B0h (show aV (uAa a l).fAttrs.fNext from(B29 hs hv).1.next)) fun b hb => ?_;have hb':b.length=16:=by
    have:8*b.length=wid a.fNext.fV6:=hb;rw [e'] at this;simp [wid] at this;omega
   refine Tot.chk (decide_eq_true (show _≤4294967296 by simp;omega)) ?_;refine Tot.chk (decide_eq_true (show _≤4294967296 by simp;omega)) ?_;refine Tot.bindT (B0w (l:=(uAa a l).fAnnounce) hl h256 true (by simp;omega)) fun c hc' => ?_;have hcl:c.length=21+clen true l:=by rw [hc'];simp [hb',uAa]
   refine Tot.chk (decide_eq_true (show _≤4294967296 by simp;omega)) ?_;refine hj _ ⟨fun y hy => ?_,by simp;omega,?_⟩
   ·rcases List.mem_append.1 hy with hy | hy
    ·exact hr.1 y hy
    ·simp at hy;subst hy;exact⟨by simp,by simp,by show c.length≤65535;omega⟩
   ·rw [A2k,hr.2.2];simp [jlen,aa,e',hcl];rfl
  ·have e':a.fNext.fV6=false:=e;exact hj _ ⟨hr.1,by omega,by rw [hr.2.2];simp [aa,e'];rfl⟩
 ·have e0:Q4 (uAa a l).fWithdraw true=some []:=by
   obtain⟨b,e,hb⟩:=A9t (l:=[]) (by simp) (by simp) true;show Q4 [] true=_;rw [e,List.length_eq_zero_iff.1 (show b.length=0 from hb)]
  refine Tot.bindOf e0 ?_;refine Tot.jn ?_;refine Tot.iteF rfl ?_;refine Tot.bindT (sortL (by omega)) fun r hr => ?_;refine Tot.chk (decide_eq_true hr.length_eq) ?_;have e:(r.drop 0).take L.length=r:=by rw [← hr.length_eq];simp
  rw [e];exact Tot.some ⟨fun y hy=>hL.1 y (hr.mem_iff.1 hy),by rw [hr.length_eq];omega,by rw [A7e hr];exact hL.2.2⟩
theorem bad0:K2 []=some false:=by
 obtain⟨b,e,hb⟩:=B5c (l:=[]) (by simp) (by simp);rw [e];cases b with
 | false=>rfl
 | true=>exact absurd (fun p hp=>by cases hp) (hb.1 rfl)
theorem C2i {l:List A2} (hl:∀ p∈l,aR p.fAddr) (hn:l.length≤100000):P8 (uW l)=some (bW l):=by
 refine A54 ?_ C1a;unfold P8;have e0:decide ((256:Int)<((uW l).fAnnounce.length:Int))=false:=rfl;refine Tot.jnR (fun m=>(m=true→¬ VW l)∧(m=false→l.length≤256∧∀ p∈l,pV p)) (fun j hj => ?_) (fun m hm => ?_)
 ·rw [e0,Bool.or_false];refine Tot.ite (fun e=>hj _ ⟨fun _ h => ?_,fun e=>by cases e⟩) (fun e => ?_)
  ·have:=of_decide_eq_true e;have h2:=h.len;have:(256:Int)<(l.length:Int):=this;omega
  ·have h256:l.length≤256:=by
    have:=of_decide_eq_false e;have:¬ (256:Int)<(l.length:Int):=this;omega
   refine Tot.bindT (B5c hl hn) fun b hb => ?_;refine Tot.ite (fun e=>hj _ ⟨fun _ h=>hb.1 e h.val,fun e=>by cases e⟩) (fun e => ?_);have hv:∀ p∈l,pV p:=Classical.byContradiction fun hc=>by rw [hb.2 hc] at e;cases e
   refine Tot.bindOf bad0 ?_;refine Tot.iteF rfl ?_;refine Tot.bindOf (show A1c (uW l)=some true by unfold A1c;simp [uW,C0y]) ?_;exact hj _ ⟨fun e=>by simp at e,fun _=>⟨h256,hv⟩⟩
 ·refine Tot.ite (fun e=>Tot.some ⟨(fun e=>by cases e),fun h=>absurd h (hm.1 e)⟩) (fun e => ?_);obtain⟨h256,hv⟩:=hm.2 e;refine Tot.bindT (B6m (C3e hv h256) hv h256 (by intro p hp;cases hp) (by simp [uW])) fun r hr => ?_;refine Tot.some ?_;rw [hr];show aw (clen true l)≤2048∧4+clen false l+aw (clen true l)+0≤4077↔_;exact⟨fun h=>⟨h256,hv,h.1,h.2⟩,fun h=>⟨h.att,h.all⟩⟩
theorem B8p {a:C2} (hs:Sm a) {l:List A2} (hl:∀ p∈l,aR p.fAddr) (hn:l.length≤100000) (h0:l≠[]):P8 (uAa a l)=some (bA a l):=by
 refine A54 ?_ C1b;unfold P8;have e0:decide ((256:Int)<((uAa a l).fWithdraw.length:Int))=false:=rfl;refine Tot.jnR (fun m=>(m=true→¬ VA a l)∧(m=false→l.length≤256∧(∀ p∈l,pV p)∧(∀ p∈l,p.fAddr.fV6=a.fNext.fV6)∧attB a=true∧a.fOrigin ≠ -1∧a.fNext≠zA)) (fun j hj => ?_) (fun m hm => ?_)
 ·rw [e0,Bool.false_or];refine Tot.ite (fun e=>hj _ ⟨fun _ h => ?_,fun e=>by cases e⟩) (fun e => ?_)
  ·have:=of_decide_eq_true e;have h2:=h.len;have:(256:Int)<(l.length:Int):=this;omega
  ·have h256:l.length≤256:=by
    have:=of_decide_eq_false e;have:¬ (256:Int)<(l.length:Int):=this;omega
   refine Tot.bindOf bad0 ?_;refine Tot.iteF rfl ?_;refine Tot.bindT (B5c hl hn) fun b hb => ?_;refine Tot.ite (fun e=>hj _ ⟨fun _ h=>hb.1 e h.val,fun e=>by cases e⟩) (fun e => ?_);have hv:∀ p∈l,pV p:=Classical.byContradiction fun hc=>by rw [hb.2 hc] at e;cases e
   have hf:Tot (A1c (uAa a l)) (fun b=>b=true↔((attB a=true∧a.fOrigin ≠ -1)∧a.fNext≠zA)∧∀ p∈l,p.fAddr.fV6=a.fNext.fV6):=by
    unfold A1c;have hlen:((l.length:Int)==0)=false:=by
     have:0<l.length:=List.length_pos_iff.2 h0;rw [Bool.eq_false_iff];intro e;simp at e;exact h0 e
    refine Tot.iteF hlen ?_;refine Tot.jn ?_;refine Tot.bindOf (show J4 (uAa a l).fAttrs=some (attB a) from B6j hs) ?_;have hx:aeq a.fNext zA=true↔a.fNext=zA:=A5n;have hc:((attB a&&((uAa a l).fAttrs.fOrigin != -1)) && !aeq a.fNext zA)=true↔(attB a=true∧a.fOrigin ≠ -1)∧a.fNext≠zA:=by
     rw [Bool.and_eq_true,Bool.and_eq_true,Bool.not_eq_true',← Bool.not_eq_true,hx,bne_iff_ne];rfl
    refine Tot.ite (fun e => ?_) (fun e=>Tot.some ⟨(fun e=>by cases e),fun hh => ?_⟩)
    ·have e':=hc.1 e;refine Tot.bindT (C2h (u:=uAa a l) hn) fun b hb => ?_;refine Tot.some ?_;have hb':b=true↔¬ ∀ p∈l,p.fAddr.fV6=a.fNext.fV6:=hb;cases b with
     | true=>simp only [Bool.not_true,Bool.false_eq_true,false_iff];exact fun hh=>hb'.1 rfl hh.2
     | false=>simp only [Bool.not_false,true_iff];exact⟨e',Classical.byContradiction fun hc=>by have:=hb'.2 hc;cases this⟩
    ·have:=hc.2 hh.1;exact absurd (this.symm.trans e) (by simp)
   refine Tot.bindT hf fun b hb2 => ?_;cases b with
   | true=>exact hj _ ⟨fun e=>by simp at e,fun _=>⟨h256,hv,(hb2.1 rfl).2,(hb2.1 rfl).1.1.1,(hb2.1 rfl).1.1.2,(hb2.1 rfl).1.2⟩⟩
   | false=>exact hj _ ⟨(fun _ h=>by have:=hb2.2 ⟨⟨⟨h.ok,h.org⟩,h.nz⟩,h.fam⟩;cases this),fun e=>by simp at e⟩
 ·refine Tot.ite (fun e=>Tot.some ⟨(fun e=>by cases e),fun h=>absurd h (hm.1 e)⟩) (fun e => ?_);obtain⟨h256,hv,hfm,ha,ho,hz⟩:=hm.2 e;refine Tot.bindT (B6m (C3f hs ha ho hz hv h256 h0) (by intro p hp;cases hp) (by simp [uAa]) hv h256) fun r hr => ?_;refine Tot.some ?_;rw [hr];show aa a (clen true l)≤2048∧4+0+aa a (clen true l)+clen false l≤4077↔_;exact⟨fun h=>⟨ha,ho,hz,h256,hv,hfm,h.1,by omega⟩,fun h=>⟨h.att,by have:=h.all;omega⟩⟩
theorem word4 (v:Int):Tot (J1 v 4) (fun b=>b.length=4):=by
 unfold J1;rw [show w64 ((4:Int)-1)=3 from by decide,F7];simp only [J0];simp [chk,LIM];rw [show w64 (2:Int)=2 from by decide,F7];simp [J0,chk,LIM];rw [show w64 (1:Int)=1 from by decide,F7];simp [J0,chk,LIM];rw [show w64 (0:Int)=0 from by decide,F7];simp [J0,chk,LIM];rw [show w64 (-1:Int) = -1 from by decide,F7];simp [J0];exact⟨_,rfl,rfl⟩
theorem word2 (v:Int):Tot (J1 v 2) (fun b=>b.length=2):=by
 unfold J1;rw [show w64 ((2:Int)-1)=1 from by decide,F7];simp only [J0];simp [chk,LIM];rw [show w64 (0:Int)=0 from by decide,F7];simp [J0,chk,LIM];rw [show w64 (-1:Int) = -1 from by decide,F7];simp [J0];exact⟨_,rfl,rfl⟩
theorem B9v {a:C2} (h1:a.fPath.length≤64) (h2:nAs a.fPath≤64):Tot (loop (V1 a) ((0:Int),([]:List Int))) (fun b=>b.length=plen a.fPath):=by
 have part:∀ k,nAs (a.fPath.take k)≤64:=fun k=>by
  have:=A7m (a.fPath.take k) (a.fPath.drop k);rw [List.take_append_drop] at this;omega
 refine Tot.rng a.fPath.length (fun k (r:List Int)=>((k:Int),r)) (fun k r=>r.length=2*k+4*nAs (a.fPath.take k)) _ [] rfl (by simp [nAs]) (fun k r hk hr => ?_) (fun r hr => ?_)
 ·unfold V1;have hsn:nAs (a.fPath.take (k+1))=nAs (a.fPath.take k)+a.fPath[k].fASNs.length:=by rw [F5 hk,A7m];simp [nAs]
  have q1:=part k;have q2:=part (k+1);refine Tot.iteT (by simpa using hk) (Tot.bindIdx k rfl hk ?_);refine Tot.jnR (fun _=>True) (fun j hj=>Tot.ite (fun _=>hj _ trivial) (fun _=>hj _ trivial)) (fun m _ => ?_);refine Tot.chk (limB (by simp;omega)) ?_;refine Tot.bindRng a.fPath[k].fASNs.length (fun i (q:List Int)=>((i:Int),q)) (fun i q=>q.length=r.length+2+4*i) (fun q=>q.length=r.length+2+4*a.fPath[k].fASNs.length) _ rfl (by simp) (fun i q hi hq => ?_) (fun q hq => ?_) (fun q hq => ?_)
  ·unfold A0r;refine Tot.iteT (by simpa using hi) (Tot.bindIdx i rfl hi ?_);refine Tot.bindT (word4 _) fun w hw => ?_;refine Tot.chk (limB (by simp;omega)) ?_;exact Tot.step _ (Prod.ext (C0 hi (by omega)) rfl) (by simp;omega)
  ·unfold A0r;exact Tot.iteF (by simp) (Tot.last hq)
  ·exact Tot.step _ (Prod.ext (C0 hk (by omega)) rfl) (by rw [hq,hsn];omega)
 ·unfold V1;rw [List.take_length] at hr;exact Tot.iteF (by simp) (Tot.last hr)
theorem B7t (k:Int):Tot (X4 k) (fun f=>0≤f∧f≤255):=by
 unfold X4;refine Tot.jnR (fun _=>True) (fun j hj => ?_) (fun m _ => ?_)
 ·refine Tot.ite (fun _=>hj _ trivial) fun _=>Tot.ite (fun _=>hj _ trivial) fun _=>Tot.ite (fun _=>hj _ trivial) fun _=>hj _ trivial
 ·refine Tot.ite (fun _=>Tot.some (by decide)) fun _=>Tot.ite (fun _=>Tot.some (by decide)) fun _ => ?_;refine Tot.jnR (fun _=>True) (fun j hj => ?_) (fun m _ => ?_)
  ·refine Tot.ite (fun _=>hj _ trivial) fun _=>Tot.ite (fun _=>hj _ trivial) fun _=>hj _ trivial
  ·refine Tot.ite (fun _=>Tot.some (by decide)) fun _=>Tot.some (by decide)
def sumTo (f:Nat→Nat):Nat→Nat
 | 0=>0
 | n+1=>sumTo f n+f n
theorem B4n {f:Nat→Nat} {n:Nat} (h:∀ i,n≤i→f i=0):∀ k,sumTo f (n+k)=sumTo f n
 | 0=>rfl
 | k+1=>by
  show sumTo f (n+k)+f (n+k)=_;rw [B4n h k,h _ (by omega)];omega
def gsz (M:List (Int×List Int)) (i:Nat):Nat:=match mget keq3 M (i:Int) with
 | some b=>hd b.length+b.length
 | none=>0
theorem B3n:KeyLaw keq3:=fun a b=>by simp [keq3]
theorem B6n {M:List (Int×List Int)} {i:Nat} (h:gsz M i=0):mget keq3 M (i:Int)=none:=by
 unfold gsz at h;cases e:mget keq3 M (i:Int) with
 | none=>rfl
 | some b=>rw [e] at h;simp only [hd] at h;split at h<;>omega
structure Mp (M:List (Int×List Int)) (g:Nat→Nat):Prop where
 sz:∀ i,gsz M i=g i
 bd:∀ (i:Nat) b,mget keq3 M (i:Int)=some b→b.length≤1000∧i≤35
theorem Mp.put {M:List (Int×List Int)} {g:Nat→Nat} (h:Mp M g) {k:Nat} {b:List Int} (hk:k≤35) (hb:b.length≤1000):Mp (mput keq3 M (k:Int) b) (fun i=>if i=k then hd b.length+b.length else g i):=by
 have e:∀ i:Nat,mget keq3 (mput keq3 M (k:Int) b) (i:Int)=if (i:Int)=(k:Int) then some b else mget keq3 M (i:Int):=fun i=>A4d B3n _ _ M _;refine⟨fun i => ?_,fun i c hc => ?_⟩
 ·unfold gsz;rw [e]
  by_cases hi:i=k
  ·subst hi;simp
  ·rw [if_neg (by omega),if_neg hi];exact h.sz i
 ·rw [e] at hc
  by_cases hi:i=k
  ·subst hi;rw [if_pos rfl] at hc;cases hc;exact⟨hb,hk⟩
  ·rw [if_neg (by omega)] at hc;exact h.bd i c hc
theorem Mp.opt {M:List (Int×List Int)} {g:Nat→Nat} (h:Mp M g) {k n:Nat} (h0:g k=0):Mp M (fun i=>if i=k then op false n else g i) :=
 ⟨fun i=>by
  by_cases hi:i=k
  ·subst hi;rw [if_pos rfl,h.sz,h0];rfl
  ·rw [if_neg hi];exact h.sz i,h.bd⟩
theorem Mp.to {M:List (Int×List Int)} {g g':Nat→Nat} (h:Mp M g) (e:∀ i,g i=g' i):Mp M g':=⟨fun i=>(h.sz i).trans (e i),h.bd⟩
theorem Mp.add {M:List (Int×List Int)} {g:Nat→Nat} (h:Mp M g) {k n:Nat} {b:List Int} (hk:k≤35) (hb:b.length=n) (hn:n≤1000):Mp (mput keq3 M (k:Int) b) (fun i=>if i=k then op true n else g i):=by
 subst hb;exact h.put hk hn
theorem Mp.grow {M:List (Int×List Int)} {g:Nat→Nat} {k n:Nat} {c:Bool} {b:List Int} {m:Nat} (h:Mp M (fun i=>if i=k then op c n else g i)) (hk:k≤35) (hb:b.length=m) (hm:m≤1000):Mp (mput keq3 M (k:Int) b) (fun i=>if i=k then op true m else g i):=by
 subst hb;refine(h.put hk hm).to fun i => ?_
 by_cases hi:i=k
 ·simp [hi,op]
 ·simp [hi]
theorem C2j {a:C2} {M:List (Int×List Int)} {g:Nat→Nat} (h:Mp M g) (h0:g 8=0) (hl:a.fCommunities.length≤64):Tot (loop (U7 a) ((0:Int),M)) (fun m=>Mp m (fun i=>if i=8 then op (decide ((0:Int)<(a.fCommunities.length:Int))) (4*a.fCommunities.length) else g i)):=by
 refine Tot.rng a.fCommunities.length (fun k (m:List (Int×List Int))=>((k:Int),m)) (fun k m=>Mp m (fun i=>if i=8 then op (decide (0<k)) (4*k) else g i)∧((mget keq3 m 8).getD []).length=4*k) _ M rfl ⟨h.opt h0,?_⟩ (fun k m hk hI => ?_) (fun m hI => ?_)
 ·have:=B6n (M:=M) (i:=8) (by rw [h.sz];exact h0);rw [show((8:Nat):Int)=8 from rfl] at this;rw [this];rfl
 ·unfold U7;refine Tot.iteT (by simpa using hk) (Tot.bindIdx k rfl hk ?_);refine Tot.bindT (word2 _) fun w1 g1 => ?_;refine Tot.chk (limB (by rw [List.length_append,hI.2];omega)) ?_;refine Tot.bindT (word2 _) fun w2 g2 => ?_;have hlen:((((mget keq3 m 8).getD [])++w1)++w2).length=4*(k+1):=by rw [List.length_append,List.length_append,hI.2];omega
  refine Tot.chk (limB (by rw [hlen];omega)) ?_;refine Tot.step _ (Prod.ext (C0 hk (by omega)) rfl) ⟨?_,?_⟩
  ·have:=hI.1.grow (k:=8) (by omega) hlen (by omega);rw [show((8:Nat):Int)=8 from rfl] at this;rw [show decide (0<k+1)=true by simp];exact this
  ·rw [A4d B3n,if_pos rfl];exact hlen
 ·unfold U7;refine Tot.iteF (by simp) (Tot.last (hI.1.to fun i => ?_));rw [show decide ((0:Int)<(a.fCommunities.length:Int))=decide (0<a.fCommunities.length) by exact decide_eq_decide.2 (by omega)]
theorem C2k {a:C2} {M:List (Int×List Int)} {g:Nat→Nat} (h:Mp M g) (h0:g 32=0) (hl:a.fLarge.length≤64):Tot (loop (U8 a) ((0:Int),M)) (fun m=>Mp m (fun i=>if i=32 then op (decide ((0:Int)<(a.fLarge.length:Int))) (12*a.fLarge.length) else g i)):=by
 refine Tot.rng a.fLarge.length (fun k (m:List (Int×List Int))=>((k:Int),m)) (fun k m=>Mp m (fun i=>if i=32 then op (decide (0<k)) (12*k) else g i)∧((mget keq3 m 32).getD []).length=12*k) _ M rfl ⟨h.opt h0,?_⟩ (fun k m hk hI => ?_) (fun m hI => ?_)
 ·have:=B6n (M:=M) (i:=32) (by rw [h.sz];exact h0);rw [show((32:Nat):Int)=32 from rfl] at this;rw [this];rfl
 ·unfold U8;refine Tot.iteT (by simpa using hk) (Tot.bindIdx k rfl hk ?_);refine Tot.bindT (word4 _) fun w1 g1 => ?_;refine Tot.chk (limB (by rw [List.length_append,hI.2];omega)) ?_;refine Tot.bindT (word4 _) fun w2 g2 => ?_;refine Tot.chk (limB (by rw [List.length_append,List.length_append,hI.2];omega)) ?_;refine Tot.bindT (word4 _) fun w3 g3 => ?_;have hlen:(((((mget keq3 m 32).getD [])++w1)++w2)++w3).length=12*(k+1):=by rw [List.length_append,List.length_append,List.length_append,hI.2];omega
  refine Tot.chk (limB (by rw [hlen];omega)) ?_;refine Tot.step _ (Prod.ext (C0 hk (by omega)) rfl) ⟨?_,?_⟩
  ·have:=hI.1.grow (k:=32) (by omega) hlen (by omega);rw [show((32:Nat):Int)=32 from rfl] at this;rw [show decide (0<k+1)=true by simp];exact this
  ·rw [A4d B3n,if_pos rfl];exact hlen
 ·unfold U8;refine Tot.iteF (by simp) (Tot.last (hI.1.to fun i => ?_));rw [show decide ((0:Int)<(a.fLarge.length:Int))=decide (0<a.fLarge.length) by exact decide_eq_decide.2 (by omega)]
def atT (k:Int) (l:List A3):List A3:=l.filter fun x=>x.fType==k
def toT (k:Int) (l:List A3):List A3:=l.filter fun x=>decide (x.fType<k)
theorem B6o (k:Int):∀ l:List A3,jlen (toT (k+1) l)=jlen (toT k l)+jlen (atT k l)∧(toT (k+1) l).length=(toT k l).length+(atT k l).length
 | []=>⟨rfl,rfl⟩
 | x :: l=>by
  obtain⟨h1,h2⟩:=B6o k l;unfold toT atT at h1 h2 ⊢;simp only [List.filter_cons];rcases Int.lt_trichotomy x.fType k with h | h | h
  ·rw [if_pos (decide_eq_true (by omega)),if_pos (decide_eq_true h),if_neg (by simp;omega)];simp only [jlen,List.length_cons];omega
  ·rw [if_pos (decide_eq_true (by omega)),if_neg (by simp;omega),if_pos (by simp [h])];simp only [jlen,List.length_cons];omega
  ·rw [if_neg (by simp;omega),if_neg (by simp;omega),if_neg (by simp;omega)];exact⟨h1,h2⟩
theorem B9w {a:C2} (hl:a.fOther.length≤8) (hd':∀ x∈a.fOther,x.fData.length≤255) {k:Int} {r m:List A3} (hm:m.length≤1000):Tot (loop (U9 a (k,r)) ((0:Int),m)) (fun p=>p=m++atT k a.fOther):=by
 refine Tot.rng a.fOther.length (fun j (_:Unit)=>((j:Int),m++atT k (a.fOther.take j))) (fun _ _=>True) _ () (by simp [atT]) trivial (fun j _ hj _ => ?_) (fun _ _ => ?_)
 ·unfold U9;refine Tot.iteT (by simpa using hj) (Tot.bindIdx j rfl hj ?_);have hx:=hd' _ (List.getElem_mem hj);have hf:(atT k (a.fOther.take j)).length≤8:=by
   have:=List.length_filter_le (fun x:A3=>x.fType==k) (a.fOther.take j);unfold atT;simp at this;omega
  refine Tot.jnR (fun q=>q=m++atT k (a.fOther.take (j+1))) (fun jj hjj => ?_) (fun q hq=>Tot.step () (by rw [hq];exact Prod.ext (C0 hj (by omega)) rfl) trivial);refine Tot.ite (fun e => ?_) (fun e => ?_)
  ·refine Tot.chk (limB (by omega)) ?_;refine Tot.chk (limB (by simp;omega)) ?_;refine hjj _ ?_;have e':a.fOther[j].fType=k:=by simpa using e
   rw [F5 hj];unfold atT;rw [List.filter_append,← List.append_assoc];congr 1;simp only [List.filter_cons,List.filter_nil];rw [if_pos (by simp [e'])];rw [← e']
  ·refine hjj _ ?_;rw [F5 hj];unfold atT;rw [List.filter_append];simp only [List.filter_cons,List.filter_nil];rw [if_neg (by simpa using e),List.append_nil]
 ·unfold U9;refine Tot.iteF (by simp) (Tot.last ?_);rw [List.take_of_length_le (Nat.le_refl _)]
theorem B9x {a:C2} (h:aOK a) {M:List (Int×List Int)} {g:Nat→Nat} (hM:Mp M g) :
  Tot (loop (V0 a M) ((0:Int),([]:List A3))) (fun r=>(∀ y∈r,uok y)∧r.length≤60∧jlen r=sumTo g 36+jlen a.fOther):=by
 have hl:=h.oth;have h0:∀ i,36≤i→gsz M i=0:=fun i hi=>by
  unfold gsz;cases e:mget keq3 M (i:Int) with
  | none=>rfl
  | some b=>have:=(hM.bd i b e).2;omega
 have hle:∀ k,(toT k a.fOther).length≤8:=fun k=>by
  have:=List.length_filter_le (fun x:A3=>decide (x.fType<k)) a.fOther;unfold toT;omega
 refine Tot.rng 256 (fun k (b:List A3)=>((k:Int),b)) (fun k r=>(∀ y∈r,uok y)∧r.length≤min k 36+(toT k a.fOther).length∧jlen r=sumTo (gsz M) k+jlen (toT k a.fOther)) _ [] rfl ⟨by simp,by simp,?_⟩ (fun k r hk hr => ?_) (fun r hr => ?_)
 ·have:toT ((0:Nat):Int) a.fOther=[]:=by
   unfold toT;rw [List.filter_eq_nil_iff];intro x hx;have:=(h.one x hx).1;simp;omega
  rw [this];rfl
 ·have hb:=hle k;have hs:=B6o (k:Int) a.fOther;unfold V0;refine Tot.iteT (by simp;omega) ?_;refine Tot.jnR (fun m=>(∀ y∈m,uok y)∧m.length≤min (k+1) 36+(toT k a.fOther).length∧jlen m=sumTo (gsz M) (k+1)+jlen (toT k a.fOther)) (fun j hj => ?_) (fun m hm => ?_)
  ·cases hg:mget keq3 M (k:Int) with
   | none =>
    refine Tot.iteF (by simp [hg]) ?_;refine hj _ ⟨hr.1,by have:=hr.2.1;show r.length≤_;omega,?_⟩;show jlen r=sumTo (gsz M) k+gsz M k+_;rw [hr.2.2];unfold gsz;rw [hg];rfl
   | some b =>
    obtain⟨h1,h2⟩:=hM.bd k b hg;refine Tot.iteT (by simp [hg]) ?_;refine Tot.bindT (B7t _) fun f hf => ?_;simp only [hg,Option.getD_some];refine Tot.chk (decide_eq_true (show _≤4294967296 by omega)) ?_;refine Tot.chk (decide_eq_true (show _≤4294967296 by simp;have:=hr.2.1;omega)) ?_;refine hj _ ⟨fun y hy => ?_,?_,?_⟩
    ·rcases List.mem_append.1 hy with hy | hy
     ·exact hr.1 y hy
     ·simp at hy;subst hy;exact⟨hf,by show(0:Int)≤k∧(k:Int)≤255;omega,by show b.length≤_;omega⟩
    ·have:=hr.2.1;simp;omega
    ·show jlen (r++_)=sumTo (gsz M) k+gsz M k+_;rw [A2k,hr.2.2];unfold gsz;simp only [hg];simp [jlen];omega
  ·refine Tot.bindT (B9w hl (fun x hx=>(h.one x hx).2.2) (by have:=hm.2.1;omega)) fun p hp => ?_;subst hp;refine Tot.step _ (Prod.ext (C0 hk (by omega)) rfl) ⟨fun y hy => ?_,?_,?_⟩
   ·rcases List.mem_append.1 hy with hy | hy
    ·exact hm.1 y hy
    ·exact h.uok (List.mem_filter.1 hy).1
   ·have:=hm.2.1;rw [List.length_append,show((k+1:Nat):Int)=(k:Int)+1 by omega,hs.2];omega
   ·rw [A2k,hm.2.2,show((k+1:Nat):Int)=(k:Int)+1 by omega,hs.1];omega
 ·unfold V0;refine Tot.iteF (by simp) ?_;have hall:toT ((256:Nat):Int) a.fOther=a.fOther:=by
   unfold toT;rw [List.filter_eq_self];intro x hx;have:=(h.one x hx).1;simp;omega
  have:=hle ((256:Nat):Int);refine Tot.last ⟨hr.1,by have:=hr.2.1;show r.length≤60;omega,?_⟩;rw [hr.2.2,hall,show 256=36+220 from rfl,B4n h0];congr 1;have:gsz M=g:=funext hM.sz;rw [this]
theorem B7u {a:C2} (hs:Sm a) (hv:attB a=true) (ho:a.fOrigin ≠ -1) (hz:a.fNext≠zA):Tot (A46 a) (fun r=>r.2=0∧(∀ y∈r.1,uok y)∧r.1.length≤60∧jlen r.1=alen a):=by
 have h:=(B29 hs hv).1;have hp:=h.pth;have hpl:plen a.fPath≤1000:=by unfold plen;omega
 have eO:decide ((0:Int)≤a.fOrigin)=true:=decide_eq_true (by have:=h.org;omega);have eM:decide ((0:Int)≤a.fMED)=(a.fMED != -1):=by rw [Bool.eq_iff_iff,decide_eq_true_eq,bne_iff_ne];have:=h.med;omega
 have eP:decide ((0:Int)≤a.fPref)=(a.fPref != -1):=by rw [Bool.eq_iff_iff,decide_eq_true_eq,bne_iff_ne];have:=h.pref;omega
 have eT:decide ((0:Int)≤a.fOTC)=(a.fOTC != -1):=by rw [Bool.eq_iff_iff,decide_eq_true_eq,bne_iff_ne];have:=h.otc;omega
 have eN:((!((a.fNext.fV6==false)&&((a.fNext.fHi==(0:Int))&&((a.fNext.fLo==(0:Int))&&true))))&&(!a.fNext.fV6)) = !a.fNext.fV6:=by rw [nz_b hz];simp
 unfold A46;rw [eO,eM,eP,eT,eN,Bool.true_or];refine Tot.bindOf (A9b hs) ?_;rw [hv];refine Tot.iteF rfl ?_;have m0:Mp ([]:List (Int×List Int)) (fun _=>0):=⟨fun i=>rfl,fun i b e=>by cases e⟩;refine Tot.jn (Tot.iteT rfl ?_);have m1:=m0.add (k:=1) (b:=[IntKind.u8.wrap a.fOrigin]) (by omega) (n:=1) rfl (by omega);refine Tot.jn (Tot.iteT rfl ?_);refine Tot.bindT (B9v hp.1 hp.2) fun b2 h2 => ?_;have m2:=m1.add (k:=2) (b:=b2) (by omega) h2 hpl;have opt:∀ {M:List (Int×List Int)} {g:Nat→Nat} (_:Mp M g) (k:Nat) (_:k≤35) (_:g k=0) (c:Bool) (w:Option (List Int)) (_:c=true→Tot w (fun b=>b.length=4)) {α:Type} {P:α→Prop} (j:List (Int×List Int)→Option α) (_:∀ m,Mp m (fun i=>if i=k then op c 4 else g i)→Tot (j m) P),Tot (if c=true then w.bind fun b=>j (mput keq3 M (k:Int) b) else j M) P:=by
  intro M g hM k hk h0 c w hw α P j hj;cases c with
  | true=>exact Tot.iteT rfl (Tot.bindT (hw rfl) fun b hb=>hj _ (hM.add hk hb (by omega)))
  | false=>exact Tot.iteF rfl (hj _ (hM.opt h0))
 refine Tot.jnR (fun m=>Mp m (fun i=>if i=3 then op (!a.fNext.fV6) 4 else _)) (fun j hj=>opt m2 3 (by omega) rfl (!a.fNext.fV6) _ (fun e=>(B0v h.next).mono fun b hb => ?_) j hj) (fun M3 m3 => ?_)
 ·rw [show a.fNext.fV6=false by simpa using e] at hb;simp [wid] at hb;omega
 refine Tot.jnR (fun m=>Mp m (fun i=>if i=4 then op (a.fMED != -1) 4 else _)) (fun j hj=>opt m3 4 (by omega) rfl (a.fMED != -1) _ (fun _=>word4 _) j hj) (fun M4 m4 => ?_);refine Tot.jnR (fun m=>Mp m (fun i=>if i=5 then op (a.fPref != -1) 4 else _)) (fun j hj=>opt m4 5 (by omega) rfl (a.fPref != -1) _ (fun _=>word4 _) j hj) (fun M5 m5 => ?_);refine Tot.bindT (C2j m5 rfl h.com) fun M6 m6 => ?_;refine Tot.bindT (C2k m6 rfl h.lar) fun M7 m7 => ?_;refine Tot.jnR (fun m=>Mp m (fun i=>if i=35 then op (a.fOTC != -1) 4 else _)) (fun j hj=>opt m7 35 (by omega) rfl (a.fOTC != -1) _ (fun _=>word4 _) j hj) (fun M8 m8 => ?_);refine Tot.bindT (B9x h m8) fun r hr=>Tot.some ⟨rfl,hr.1,hr.2.1,?_⟩;rw [hr.2.2];simp [sumTo,alen,op,hd]
theorem B6p {l:List A3} (hl:l.length≤100) (y:A3):Tot (A4h l y) (fun r=>r.Perm (l++[y])):=by
 unfold A4h;refine Tot.bindLoop (fun s:Int=>0≤s∧s≤l.length) (fun s=>((l.length:Int)-s).toNat) (fun i:Int=>0≤i∧i≤(l.length:Int)) ⟨by omega,by omega⟩ (fun s hs => ?_) (fun i hi => ?_)
 ·unfold A4o;refine Tot.jnR (fun m=>m=true→s<l.length) (fun j hj => ?_) (fun m hm => ?_)
  ·refine Tot.ite (fun e => ?_) (fun e=>hj _ (fun e=>by cases e));have e':s<l.length:=of_decide_eq_true e;exact Tot.bindIdx s.toNat (by omega) (by omega) (hj _ fun _=>e')
  ·refine Tot.ite (fun e => ?_) (fun e=>Tot.out hs);have:=hm e;have e1:w64 (s+1)=s+1:=H1 (by omega) (by omega);refine Tot.next ⟨by rw [e1];omega,by rw [e1];omega⟩ (by rw [e1];omega)
 ·refine Tot.chk (by rw [Bool.and_eq_true,Bool.and_eq_true];exact⟨⟨decide_eq_true hi.1,decide_eq_true (Nat.zero_le _)⟩,decide_eq_true (by omega)⟩) ?_;refine Tot.chk (decide_eq_true (show _≤4294967296 by simp;omega)) ?_;refine Tot.chk (decide_eq_true (show _≤4294967296 by simp;omega)) ?_;refine Tot.chk (by rw [Bool.and_eq_true,Bool.and_eq_true];exact⟨⟨decide_eq_true hi.1,decide_eq_true (by omega)⟩,decide_eq_true (Nat.le_refl _)⟩) ?_;refine Tot.chk (decide_eq_true (show _≤4294967296 by simp;omega)) ?_;refine Tot.some ?_;rw [List.drop_zero,List.take_length,List.append_assoc];refine(List.Perm.append_left _ List.perm_append_comm).trans ?_;rw [← List.append_assoc,List.take_append_drop]
end Go.Proofs.YtplbaenjbihekaaGreatDoor
