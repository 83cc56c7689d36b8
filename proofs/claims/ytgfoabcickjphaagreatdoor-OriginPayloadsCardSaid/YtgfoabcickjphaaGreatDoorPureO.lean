/- Intervals, the order of addresses, decks, the document's Of, in plain Lean. -/
import Derived.Test.YtgfoabcickjphaaGreatDoorPureE
namespace Go.Proofs.YtgfoabcickjphaaGreatDoor
open Go Go.Vc
abbrev Iv:=Nat×Nat
def inI (n:Nat) (l:List Iv):Prop:=∃ x∈l,x.1≤n∧n≤x.2
def okI (l:List Iv):Prop:=∀ x∈l,x.1≤x.2
def VL (l:List Iv):Prop:=okI l∧l.Pairwise fun x y=>x.2+1<y.1
theorem inI_nil {n:Nat}:¬ inI n []:=fun⟨x,h,_⟩=>by cases h
theorem inI_cons {n:Nat} {x:Iv} {l:List Iv}:inI n (x :: l)↔(x.1≤n∧n≤x.2)∨inI n l:=by
 constructor
 ·rintro⟨y,hy,h⟩
  rcases List.mem_cons.1 hy with rfl | hy
  ·exact .inl h
  ·exact .inr ⟨y,hy,h⟩
 ·rintro(h | ⟨y,hy,h⟩)
  ·exact⟨x,List.mem_cons_self,h⟩
  ·exact⟨y,List.mem_cons_of_mem _ hy,h⟩
theorem inI_app {n:Nat} {l m:List Iv}:inI n (l++m)↔inI n l∨inI n m:=by
 constructor
 ·rintro⟨y,hy,h⟩
  rcases List.mem_append.1 hy with hy | hy
  ·exact .inl ⟨y,hy,h⟩
  ·exact .inr ⟨y,hy,h⟩
 ·rintro(⟨y,hy,h⟩ | ⟨y,hy,h⟩)
  ·exact⟨y,List.mem_append_left _ hy,h⟩
  ·exact⟨y,List.mem_append_right _ hy,h⟩
theorem inI_one {n:Nat} {x:Iv}:inI n [x]↔x.1≤n∧n≤x.2:=by rw [inI_cons];simp [inI_nil]
theorem VL.tail {x:Iv} {l:List Iv} (h:VL (x :: l)):VL l:=⟨fun y hy=>h.1 y (List.mem_cons_of_mem _ hy),(List.pairwise_cons.1 h.2).2⟩
theorem VL.head {x:Iv} {l:List Iv} (h:VL (x :: l)) {n:Nat} (hn:inI n l):x.2+1<n:=by
 obtain⟨y,hy,h1,_⟩:=hn
 have:=(List.pairwise_cons.1 h.2).1 y hy
 omega
-- merging
def mstep (out:List Iv) (x:Iv):List Iv :=
 match out.getLast? with
 | none=>[x]
 | some t=>if t.2+1<x.1 then out++[x] else if t.2<x.2 then out.dropLast++[(t.1,x.2)] else out
def mergeL (l:List Iv):List Iv:=l.foldl mstep []
theorem mergeL_snoc (l:List Iv) (x:Iv):mergeL (l++[x])=mstep (mergeL l) x:=by unfold mergeL;rw [List.foldl_append];rfl
theorem mstep_snoc (a:List Iv) (t x:Iv):mstep (a++[t]) x=if t.2+1<x.1 then a++[t]++[x] else if t.2<x.2 then a++[(t.1,x.2)] else a++[t]:=by
 unfold mstep
 rw [List.getLast?_concat,List.dropLast_concat]
theorem merge_ok:∀ l:List Iv,okI l→l.Pairwise (fun x y=>x.1≤y.1)→VL (mergeL l)∧(∀ n,inI n (mergeL l)↔inI n l)∧∀ z∈mergeL l,∃ y∈l,z.1=y.1:=by
 refine snoc_ind ?_ ?_
 ·exact fun _ _=>⟨⟨fun x hx=>(by cases hx),.nil⟩,fun n=>Iff.rfl,fun z hz=>(by cases hz)⟩
 ·intro l x ih hok hs
  obtain⟨⟨v1,v2⟩,e,f⟩:=ih (fun y hy=>hok y (List.mem_append_left _ hy)) (List.pairwise_append.1 hs).1
  have hx:=hok x (by simp)
  have hle:∀ z∈mergeL l,z.1≤x.1:=fun z hz=>by
   obtain⟨y,hy,h⟩:=f z hz
   rw [h]
   exact(List.pairwise_append.1 hs).2.2 y hy x (by simp)
  rw [mergeL_snoc]
  rcases List.eq_nil_or_concat (mergeL l) with c | ⟨a,t,c⟩
  ·have hl:∀ n,¬ inI n l:=fun n h=>by
    have:=(e n).2 h
    rw [c] at this
    exact inI_nil this
   rw [c]
   refine⟨⟨fun y hy => ?_,List.pairwise_singleton _ _⟩,fun n => ?_,fun z hz=>⟨x,by simp,by rw [List.mem_singleton.1 hz]⟩⟩
   ·rw [List.mem_singleton.1 hy];exact hx
   ·show inI n [x]↔_
    rw [inI_app]
    exact⟨.inr,fun h=>h.elim (fun h=>(hl n h).elim) id⟩
  ·rw [List.concat_eq_append] at c
   rw [c] at v1 v2 e f hle
   rw [c,mstep_snoc]
   have hp:=List.pairwise_append.1 v2
   have ht:=v1 t (by simp)
   have htx:=hle t (by simp)
   by_cases c1:t.2+1<x.1
   ·rw [if_pos c1]
    refine⟨⟨fun y hy => ?_,?_⟩,fun n => ?_,fun z hz => ?_⟩
    ·rcases List.mem_append.1 hy with hy | hy
     ·exact v1 y hy
     ·rw [List.mem_singleton.1 hy];exact hx
    ·refine List.pairwise_append.2 ⟨v2,List.pairwise_singleton _ _,fun y hy z hz => ?_⟩
     rw [List.mem_singleton.1 hz]
     rcases List.mem_append.1 hy with hy | hy
     ·have:=hp.2.2 y hy t (List.mem_singleton.2 rfl)
      omega
     ·rw [List.mem_singleton.1 hy];exact c1
    ·rw [inI_app,e n,← inI_app]
    ·rcases List.mem_append.1 hz with hz | hz
     ·obtain⟨y,hy,h⟩:=f z hz
      exact⟨y,List.mem_append_left _ hy,h⟩
     ·exact⟨x,by simp,by rw [List.mem_singleton.1 hz]⟩
   ·rw [if_neg c1]
    have cover:∀ n,inI n (l++[x])↔inI n a∨(t.1≤n∧n≤t.2)∨(x.1≤n∧n≤x.2):=fun n=>by
     rw [inI_app,← e n,inI_app,inI_one,inI_one,or_assoc]
    by_cases c2:t.2<x.2
    ·rw [if_pos c2]
     refine⟨⟨fun y hy => ?_,?_⟩,fun n => ?_,fun z hz => ?_⟩
     ·rcases List.mem_append.1 hy with hy | hy
      ·exact v1 y (List.mem_append_left _ hy)
      ·rw [List.mem_singleton.1 hy];simp only;omega
     ·refine List.pairwise_append.2 ⟨hp.1,List.pairwise_singleton _ _,fun y hy z hz => ?_⟩
      rw [List.mem_singleton.1 hz]
      exact hp.2.2 y hy t (List.mem_singleton.2 rfl)
     ·rw [cover,inI_app,inI_one]
      simp only
      constructor
      ·rintro(h | h)
       ·exact .inl h
       ·rcases Nat.lt_or_ge t.2 n with g | g
        ·exact .inr (.inr ⟨by omega,h.2⟩)
        ·exact .inr (.inl ⟨h.1,g⟩)
      ·rintro(h | h | h)
       ·exact .inl h
       ·exact .inr ⟨h.1,by omega⟩
       ·exact .inr ⟨by omega,h.2⟩
     ·rcases List.mem_append.1 hz with hz | hz
      ·obtain⟨y,hy,h⟩:=f z (List.mem_append_left _ hz)
       exact⟨y,List.mem_append_left _ hy,h⟩
      ·obtain⟨y,hy,h⟩:=f t (by simp)
       exact⟨y,List.mem_append_left _ hy,by rw [List.mem_singleton.1 hz];exact h⟩
    ·rw [if_neg c2]
     refine⟨⟨v1,v2⟩,fun n => ?_,fun z hz => ?_⟩
     ·rw [cover,inI_app,inI_one]
      constructor
      ·rintro(h | h)
       ·exact .inl h
       ·exact .inr (.inl h)
      ·rintro(h | h | h)
       ·exact .inl h
       ·exact .inr h
       ·exact .inr ⟨by omega,by omega⟩
     ·obtain⟨y,hy,h⟩:=f z hz
      exact⟨y,List.mem_append_left _ hy,h⟩
def rk (a:aAddr):Nat:=if a.fV6=true then 4294967297+nA a else nA a
theorem rk4 {a:aAddr} (ha:aV a) (h:a.fV6=false):rk a<4294967296:=by
 have:=aV_lt ha
 rw [h] at this
 unfold rk
 rw [h,if_neg (by simp)]
 exact this
theorem rk6 {a:aAddr} (h:a.fV6=true):4294967297≤rk a:=by
 unfold rk
 rw [h,if_pos rfl]
 omega
theorem aLt_rk {a b:aAddr} (ha:aV a) (hb:aV b):aLt a b↔rk a<rk b:=by
 unfold aLt
 cases h1:a.fV6<;>cases h2:b.fV6
 ·simp [rk,h1,h2]
 ·have:=rk4 ha h1
  have:=rk6 h2
  simp
  omega
 ·have:=rk4 hb h2
  have:=rk6 h1
  simp
  omega
 ·simp [rk,h1,h2]
theorem rk_inj {a b:aAddr} (ha:aV a) (hb:aV b) (h:rk a=rk b):a=b:=by
 have h1:a.fV6=b.fV6:=by
  cases h1:a.fV6<;>cases h2:b.fV6
  ·rfl
  ·have:=rk4 ha h1
   have:=rk6 h2
   omega
  ·have:=rk4 hb h2
   have:=rk6 h1
   omega
  ·rfl
 refine aV_eq ha.1 hb.1 h1 ?_
 unfold rk at h
 rw [h1] at h
 split at h<;>omega
def NextF (a:aAddr):aAddr×Bool:=if nA a+1<2 ^ wid a.fV6 then (mkA a.fV6 (nA a+1),true) else (aAddr.mk false 0 0,false)
theorem next_rk {a:aAddr} (h:(NextF a).2=true):aV (NextF a).1∧rk (NextF a).1=rk a+1∧(NextF a).1.fV6=a.fV6:=by
 unfold NextF at h ⊢
 by_cases c:nA a+1<2 ^ wid a.fV6
 ·rw [if_pos c]
  refine⟨mkA_V c,?_,rfl⟩
  unfold rk
  simp only [mkA_v6,nA_mkA]
  split<;>omega
 ·rw [if_neg c] at h;cases h
theorem next_none {a b:aAddr} (ha:aV a) (hb:aV b) (h:(NextF a).2=false):rk b≠rk a+1:=by
 unfold NextF at h
 by_cases c:nA a+1<2 ^ wid a.fV6
 ·rw [if_pos c] at h;cases h
 ·intro e
  have hl:=aV_lt ha
  have hb':=aV_lt hb
  cases h1:a.fV6<;>cases h2:b.fV6<;>rw [h1] at c hl<;>rw [h2] at hb'<;>simp [wid] at c hl hb'<;>simp [rk,h1,h2] at e<;>omega
theorem next_parts (a:aAddr) (ha:aV a):∃ hi lo:Nat,hi<18446744073709551616∧lo<18446744073709551616∧a.fHi=hi∧a.fLo=lo∧nA a=hi*18446744073709551616+lo:=by
 obtain⟨⟨⟨h1,h2⟩,h3,h4⟩,_⟩:=ha
 exact⟨a.fHi.toNat,a.fLo.toNat,by omega,by omega,by omega,by omega,rfl⟩
theorem rnext_eq {a:aAddr} (ha:aV a):xref01_Next a=some (NextF a):=by
 obtain⟨hi,lo,b1,b2,e1,e2,e3⟩:=next_parts a ha
 have hl:=aV_lt ha
 have hv:=ha.2
 obtain⟨v,H,L⟩:=a
 simp only at e1 e2 e3 hl hv
 subst e1 e2
 refine Tot.eq ?_
 unfold xref01_Next
 simp only
 have wl:IntKind.u64.wrap ((lo:Int)+1)=((if lo+1=18446744073709551616 then 0 else lo+1:Nat):Int):=by
  rw [IntKind.wrap_u64];split<;>omega
 have wh:IntKind.u64.wrap ((hi:Int)+1)=((if hi+1=18446744073709551616 then 0 else hi+1:Nat):Int):=by
  rw [IntKind.wrap_u64];split<;>omega
 rw [wl,wh]
 have nv:NextF ⟨v,(hi:Int),(lo:Int)⟩=if hi*18446744073709551616+lo+1<2 ^ wid v then (mkA v (hi*18446744073709551616+lo+1),true) else (aAddr.mk false 0 0,false):=by
  unfold NextF
  rw [e3]
 rw [nv]
 cases v with
 | false =>
  obtain⟨z1,z2⟩:hi=0∧lo<4294967296:=by
   rcases hv with hv | hv
   ·cases hv
   ·omega
  subst z1
  have c0:¬ lo+1=18446744073709551616:=by omega
  rw [if_neg c0]
  refine Tot.jnR (fun m:Int=>m=0) (fun j hj=>Tot.iteF (by simp;omega) (hj _ rfl)) (fun m hm => ?_)
  subst hm
  refine Tot.jnR (fun m:Bool=>m=decide (4294967296≤lo+1)) (fun j hj=>Tot.iteF (by simp) (hj _ (by simp;omega))) (fun m hm => ?_)
  subst hm
  refine Tot.ite (fun h=>Tot.some ?_) (fun h=>Tot.some ?_)
  ·have:=of_decide_eq_true h
   rw [if_neg (by simp [wid];omega)]
  ·have:=of_decide_eq_false h
   rw [if_pos (by simp [wid];omega)]
   congr 1
   unfold mkA
   congr 1<;>omega
 | true =>
  have hw:(2:Nat) ^ wid true=340282366920938463463374607431768211456:=rfl
  rw [hw]
  refine Tot.jnR (fun m:Int=>m=((if lo+1=18446744073709551616 then (if hi+1=18446744073709551616 then 0 else hi+1) else hi:Nat):Int)) (fun j hj => ?_) (fun m hm => ?_)
  ·by_cases c:lo+1=18446744073709551616
   ·rw [if_pos c]
    exact Tot.iteT (by simp) (hj _ (by rw [if_pos c]))
   ·rw [if_neg c]
    exact Tot.iteF (by simp;omega) (hj _ (by rw [if_neg c]))
  subst hm
  refine Tot.jnR (fun m:Bool=>m=decide (lo+1=18446744073709551616∧hi+1=18446744073709551616)) (fun j hj => ?_) (fun m hm => ?_)
  ·by_cases c:lo+1=18446744073709551616
   ·by_cases c':hi+1=18446744073709551616
    ·simp only [if_pos c,if_pos c']
     exact Tot.iteT (by simp) (hj _ (by simp [c,c']))
    ·simp only [if_pos c,if_neg c']
     exact Tot.iteF (by simp;omega) (hj _ (by simp [c']))
   ·simp only [if_neg c]
    exact Tot.iteF (by simp;omega) (hj _ (by simp [c]))
  subst hm
  refine Tot.ite (fun h=>Tot.some ?_) (fun h=>Tot.some ?_)
  ·obtain⟨g1,g2⟩:=of_decide_eq_true h
   have c:¬ hi*18446744073709551616+lo+1<340282366920938463463374607431768211456:=by omega
   rw [if_neg c]
  ·have g:=of_decide_eq_false h
   have c:hi*18446744073709551616+lo+1<340282366920938463463374607431768211456:=by
    rcases Nat.lt_or_ge (hi*18446744073709551616+lo+1) 340282366920938463463374607431768211456 with d | d
    ·exact d
    ·exact(g ⟨by omega,by omega⟩).elim
   rw [if_pos c]
   have key:(((if lo+1=18446744073709551616 then (if hi+1=18446744073709551616 then 0 else hi+1) else hi:Nat):Int)=(((hi*18446744073709551616+lo+1) / 18446744073709551616:Nat):Int))∧(((if lo+1=18446744073709551616 then 0 else lo+1:Nat):Int)=(((hi*18446744073709551616+lo+1) % 18446744073709551616:Nat):Int)):=by
    by_cases d:lo+1=18446744073709551616
    ·have d':¬ hi+1=18446744073709551616:=fun e=>g ⟨d,e⟩
     rw [if_pos d,if_neg d',if_pos d]
     constructor<;>omega
    ·rw [if_neg d,if_neg d]
     constructor<;>omega
   unfold mkA
   rw [key.1,key.2]
theorem anext_eq {a:aAddr} (ha:aV a):addr_Next a=some (NextF a):=by
 obtain⟨hi,lo,b1,b2,e1,e2,e3⟩:=next_parts a ha
 have hl:=aV_lt ha
 have hv:=ha.2
 obtain⟨v,H,L⟩:=a
 simp only at e1 e2 e3 hl hv
 subst e1 e2
 refine Tot.eq ?_
 unfold addr_Next
 simp only
 have wl:IntKind.u64.wrap ((lo:Int)+1)=((if lo+1=18446744073709551616 then 0 else lo+1:Nat):Int):=by
  rw [IntKind.wrap_u64];split<;>omega
 have wh:IntKind.u64.wrap ((hi:Int)+1)=((if hi+1=18446744073709551616 then 0 else hi+1:Nat):Int):=by
  rw [IntKind.wrap_u64];split<;>omega
 rw [wl,wh]
 have nv:NextF ⟨v,(hi:Int),(lo:Int)⟩=if hi*18446744073709551616+lo+1<2 ^ wid v then (mkA v (hi*18446744073709551616+lo+1),true) else (aAddr.mk false 0 0,false):=by
  unfold NextF
  rw [e3]
 rw [nv]
 cases v with
 | false =>
  obtain⟨z1,z2⟩:hi=0∧lo<4294967296:=by
   rcases hv with hv | hv
   ·cases hv
   ·omega
  subst z1
  have c0:¬ lo+1=18446744073709551616:=by omega
  rw [if_neg c0]
  refine Tot.jnR (fun m:Int=>m=0) (fun j hj=>Tot.iteF (by simp) (hj _ rfl)) (fun m hm => ?_)
  subst hm
  refine Tot.jnR (fun m:Bool=>m=decide (4294967296≤lo+1)) (fun j hj=>Tot.iteF (by simp) (Tot.bindT (avalid_eq _ ⟨⟨by simp,by simp⟩,by simp only;omega,by simp only;omega⟩) fun r hr=>hj _ ?_)) (fun m hm => ?_)
  ·have e:aV (aAddr.mk false 0 ((lo+1:Nat):Int))↔lo+1<4294967296:=by
    constructor
    ·rintro⟨_,h | h⟩
     ·cases h
     ·simp only at h;omega
    ·intro h
     exact⟨⟨⟨by simp,by simp⟩,by simp only;omega,by simp only;omega⟩,.inr ⟨rfl,by simp only;omega⟩⟩
   rw [e] at hr
   by_cases c:lo+1<4294967296
   ·rw [hr.2 c];simp;omega
   ·have:r=false:=by
     cases r with
     | false=>rfl
     | true=>exact(c (hr.1 rfl)).elim
    rw [this];simp;omega
  subst hm
  refine Tot.ite (fun h=>Tot.some ?_) (fun h=>Tot.some ?_)
  ·have:=of_decide_eq_true h
   rw [if_neg (by simp [wid];omega)]
  ·have:=of_decide_eq_false h
   rw [if_pos (by simp [wid];omega)]
   congr 1
   unfold mkA
   congr 1<;>omega
 | true =>
  have hw:(2:Nat) ^ wid true=340282366920938463463374607431768211456:=rfl
  rw [hw]
  refine Tot.jnR (fun m:Int=>m=((if lo+1=18446744073709551616 then (if hi+1=18446744073709551616 then 0 else hi+1) else hi:Nat):Int)) (fun j hj => ?_) (fun m hm => ?_)
  ·by_cases c:lo+1=18446744073709551616
   ·rw [if_pos c]
    exact Tot.iteT (by simp) (hj _ (by rw [if_pos c]))
   ·rw [if_neg c]
    exact Tot.iteF (by simp;omega) (hj _ (by rw [if_neg c]))
  subst hm
  refine Tot.jnR (fun m:Bool=>m=decide (lo+1=18446744073709551616∧hi+1=18446744073709551616)) (fun j hj => ?_) (fun m hm => ?_)
  ·by_cases c:lo+1=18446744073709551616
   ·by_cases c':hi+1=18446744073709551616
    ·simp only [if_pos c,if_pos c']
     exact Tot.iteT (by simp) (hj _ (by simp [c,c']))
    ·simp only [if_pos c,if_neg c']
     exact Tot.iteF (by simp;omega) (Tot.bindOf (show addr_Valid ⟨true,_,_⟩=some true from rfl) (hj _ (by simp [c'])))
   ·simp only [if_neg c]
    exact Tot.iteF (by simp;omega) (Tot.bindOf (show addr_Valid ⟨true,_,_⟩=some true from rfl) (hj _ (by simp [c])))
  subst hm
  refine Tot.ite (fun h=>Tot.some ?_) (fun h=>Tot.some ?_)
  ·obtain⟨g1,g2⟩:=of_decide_eq_true h
   have c:¬ hi*18446744073709551616+lo+1<340282366920938463463374607431768211456:=by omega
   rw [if_neg c]
  ·have g:=of_decide_eq_false h
   have c:hi*18446744073709551616+lo+1<340282366920938463463374607431768211456:=by
    rcases Nat.lt_or_ge (hi*18446744073709551616+lo+1) 340282366920938463463374607431768211456 with d | d
    ·exact d
    ·exact(g ⟨by omega,by omega⟩).elim
   rw [if_pos c]
   have key:(((if lo+1=18446744073709551616 then (if hi+1=18446744073709551616 then 0 else hi+1) else hi:Nat):Int)=(((hi*18446744073709551616+lo+1) / 18446744073709551616:Nat):Int))∧(((if lo+1=18446744073709551616 then 0 else lo+1:Nat):Int)=(((hi*18446744073709551616+lo+1) % 18446744073709551616:Nat):Int)):=by
    by_cases d:lo+1=18446744073709551616
    ·have d':¬ hi+1=18446744073709551616:=fun e=>g ⟨d,e⟩
     rw [if_pos d,if_neg d',if_pos d]
     constructor<;>omega
    ·rw [if_neg d,if_neg d]
     constructor<;>omega
   unfold mkA
   rw [key.1,key.2]
theorem vl_nil:VL []:=⟨fun x hx=>(by cases hx),.nil⟩
theorem vl_step {l:List Iv} {k:Nat} (hk:k<l.length):VL (l.take (k+1))↔VL (l.take k)∧l[k].1≤l[k].2∧∀ m (_:k=m+1),(l[m]'(by omega)).2+1<l[k].1:=by
 rw [take_snoc hk]
 constructor
 ·rintro⟨h1,h2⟩
  have hp:=List.pairwise_append.1 h2
  refine⟨⟨fun x hx=>h1 x (List.mem_append_left _ hx),hp.1⟩,h1 _ (List.mem_append_right _ (List.mem_singleton.2 rfl)),fun m e => ?_⟩
  refine hp.2.2 _ ?_ _ (List.mem_singleton.2 rfl)
  rw [List.mem_take_iff_getElem]
  exact⟨m,by omega,rfl⟩
 ·rintro⟨⟨h1,h2⟩,h3,h4⟩
  refine⟨fun x hx => ?_,List.pairwise_append.2 ⟨h2,List.pairwise_singleton _ _,fun x hx y hy => ?_⟩⟩
  ·rcases List.mem_append.1 hx with hx | hx
   ·exact h1 x hx
   ·rw [List.mem_singleton.1 hx];exact h3
  ·rw [List.mem_singleton.1 hy]
   obtain⟨i,hi,rfl⟩:=List.mem_take_iff_getElem.1 hx
   have hik:i<k:=by omega
   obtain⟨m,rfl⟩:∃ m,k=m+1:=⟨k-1,by omega⟩
   have h5:=h4 m rfl
   by_cases e:i=m
   ·subst e;exact h5
   ·have h6:=List.pairwise_iff_getElem.1 h2 i m (by rw [List.length_take];omega) (by rw [List.length_take];omega) (by omega)
    simp only [List.getElem_take] at h6
    have h7:=h1 (l[m]'(by omega)) (List.mem_take_iff_getElem.2 ⟨m,by omega,rfl⟩)
    omega
theorem vl_take {l:List Iv} (h:VL l) (k:Nat):VL (l.take k):=⟨fun x hx=>h.1 x (List.mem_of_mem_take hx),h.2.sublist (List.take_sublist _ _)⟩
def ivP (x:aAddr_):Iv:=(rk x.ffrom,rk x.fto)
theorem cmpA_pos {a b:aAddr} (ha:aV a) (hb:aV b):0<cmpA a b↔rk b<rk a:=by
 unfold cmpA
 by_cases h1:aLt a b
 ·rw [if_pos h1]
  have:=(aLt_rk ha hb).1 h1
  omega
 ·rw [if_neg h1]
  by_cases h2:aLt b a
  ·rw [if_pos h2]
   have:=(aLt_rk hb ha).1 h2
   omega
  ·rw [if_neg h2]
   have:=mt (aLt_rk hb ha).2 h2
   omega
theorem cmpA_nonneg {a b:aAddr} (ha:aV a) (hb:aV b):0≤cmpA a b↔rk b≤rk a:=by
 unfold cmpA
 by_cases h1:aLt a b
 ·rw [if_pos h1]
  have:=(aLt_rk ha hb).1 h1
  omega
 ·rw [if_neg h1]
  have:=mt (aLt_rk ha hb).2 h1
  by_cases h2:aLt b a
  ·rw [if_pos h2];omega
  ·rw [if_neg h2];omega
theorem cmpA_zero {a b:aAddr} (ha:aV a) (hb:aV b):cmpA a b=0↔rk a=rk b:=by
 unfold cmpA
 by_cases h1:aLt a b
 ·rw [if_pos h1]
  have:=(aLt_rk ha hb).1 h1
  omega
 ·rw [if_neg h1]
  have:=mt (aLt_rk ha hb).2 h1
  by_cases h2:aLt b a
  ·rw [if_pos h2]
   have:=(aLt_rk hb ha).1 h2
   omega
  ·rw [if_neg h2]
   have:=mt (aLt_rk hb ha).2 h2
   omega
theorem valid_addrs {l:List aAddr_} (hv:∀ x∈l,aV x.ffrom∧aV x.fto) (hl:l.length≤1000000000):Tot (resource_order_valid l) (fun b=>b=true↔VL (l.map ivP)):=by
 unfold resource_order_valid
 refine Tot.bindRng l.length (fun k (_:Unit)=>((k:Nat):Int)) (fun k _=>VL ((l.map ivP).take k)) (fun x=>match x with | .inl _=>¬ VL (l.map ivP) | .inr _=>VL (l.map ivP)) () rfl (by simpa using vl_nil) (fun k b hk hb => ?_) (fun b hb => ?_) (fun x hx => ?_)
 ·unfold resource_order_valid_L0
  have hw:w64 ((k:Int)+1)=((k+1:Nat):Int):=by rw [w64_id (by omega) (by omega)];rfl
  have hkm:k<(l.map ivP).length:=by simpa using hk
  have hst:=vl_step hkm
  have hx:=hv _ (List.getElem_mem hk)
  have bad:¬ VL ((l.map ivP).take (k+1))→¬ VL (l.map ivP):=fun h h'=>h (vl_take h' _)
  refine Tot.iteT (by simpa using hk) (Tot.jnR (fun _:Unit=>VL ((l.map ivP).take (k+1))) (fun j hj => ?_) (fun u hu=>Tot.step () (by rw [hw]) hu))
  refine Tot.bindIdx k rfl hk (Tot.bindOf (acmp_eq hx.1.1 hx.2.1) ?_)
  have hgk:(l.map ivP)[k]=(rk l[k].ffrom,rk l[k].fto):=by simp [ivP]
  refine Tot.ite (fun hc=>Tot.stop (bad fun h => ?_)) (fun hc => ?_)
  ·have hc:=(cmpA_pos hx.1 hx.2).1 (of_decide_eq_true hc)
   have:=(hst.1 h).2.1
   rw [hgk] at this
   simp only at this
   omega
  have hc:¬ rk l[k].fto<rk l[k].ffrom:=fun e=>by
   have:=(cmpA_pos hx.1 hx.2).2 e
   have:=of_decide_eq_false hc
   omega
  refine Tot.ite (fun h0=>hj () ?_) (fun h0 => ?_)
  ·have h0:k=0:=by simpa using h0
   refine hst.2 ⟨hb,by rw [hgk];simp only;omega,fun m e=>by omega⟩
  ·have h0:k≠0:=by simpa using h0
   obtain⟨m,rfl⟩:∃ m,k=m+1:=⟨k-1,by omega⟩
   have hm:m<l.length:=by omega
   have hp:=hv _ (List.getElem_mem hm)
   have hgm:(l.map ivP)[m]'(by simpa using hm)=(rk l[m].ffrom,rk l[m].fto):=by simp [ivP]
   rw [w64_id (n:=((m+1:Nat):Int)-1) (by omega) (by omega)]
   refine Tot.bindIdx m (by omega) hm (Tot.bindOf (anext_eq hp.2) ?_)
   have good:VL ((l.map ivP).take (m+1+1))↔rk l[m].fto+1<rk l[m+1].ffrom:=by
    rw [hst]
    constructor
    ·intro h
     have:=h.2.2 m rfl
     rw [hgk,hgm] at this
     exact this
    ·intro h
     refine⟨hb,by rw [hgk];simp only;omega,fun q e => ?_⟩
     have:q=m:=by omega
     subst this
     rw [hgk,hgm]
     exact h
   refine Tot.jnR (fun b:Bool=>b=false↔rk l[m].fto+1<rk l[m+1].ffrom) (fun j hj => ?_) (fun b hb=>Tot.ite (fun h=>Tot.stop (bad fun h' => ?_)) (fun h=>hj () (good.2 (hb.1 h))))
   ·refine Tot.bindIdx m (by omega) hm (Tot.bindOf (acmp_eq hp.2.1 hx.1.1) (Tot.ite (fun h=>hj true ?_) (fun h => ?_)))
    ·have:=(cmpA_nonneg hp.2 hx.1).1 (of_decide_eq_true h)
     constructor
     ·intro e;cases e
     ·intro e;omega
    ·have h1:rk l[m].fto<rk l[m+1].ffrom:=by
      rcases Nat.lt_or_ge (rk l[m].fto) (rk l[m+1].ffrom) with g | g
      ·exact g
      ·exact(of_decide_eq_false h ((cmpA_nonneg hp.2 hx.1).2 g)).elim
     refine Tot.ite (fun h2 => ?_) (fun h2=>hj false ?_)
     ·obtain⟨n1,n2,_⟩:=next_rk h2
      refine Tot.bindOf (acmp_eq n1.1 hx.1.1) (hj _ ?_)
      rw [beq_eq_false_iff_ne,ne_eq,cmpA_zero n1 hx.1,n2]
      omega
     ·have:=next_none (b:=l[m+1].ffrom) hp.2 hx.1 h2
      constructor
      ·intro _;omega
      ·intro _;rfl
   ·have:=hb.2 (good.1 h')
    rw [this] at h;cases h
 ·unfold resource_order_valid_L0
  refine Tot.iteF (by simp) (Tot.last ?_)
  have e:(l.map ivP).take l.length=l.map ivP:=by rw [List.take_of_length_le (by simp)]
  rw [e] at hb
  exact hb
 ·cases x with
  | inl _=>exact Tot.some ⟨fun e=>(by cases e),fun e=>absurd e hx⟩
  | inr _=>exact Tot.some ⟨fun _=>hx,fun _=>rfl⟩
def ivI (x:resource_part_int_):Iv:=(x.ffrom.toNat,x.fto.toNat)
def okN (a b:Int):Prop:=0≤a∧a≤b∧b≤4294967295
theorem valid_nums {l:List resource_part_int_} (hv:∀ x∈l,okN x.ffrom x.fto) (hl:l.length≤1000000000):Tot (resource_order_valid_2 l) (fun b=>b=true↔VL (l.map ivI)):=by
 unfold resource_order_valid_2
 refine Tot.bindRng l.length (fun k (_:Unit)=>((k:Nat):Int)) (fun k _=>VL ((l.map ivI).take k)) (fun x=>match x with | .inl _=>¬ VL (l.map ivI) | .inr _=>VL (l.map ivI)) () rfl (by simpa using vl_nil) (fun k b hk hb => ?_) (fun b hb => ?_) (fun x hx => ?_)
 ·unfold resource_order_valid_2_L0
  have hw:w64 ((k:Int)+1)=((k+1:Nat):Int):=by rw [w64_id (by omega) (by omega)];rfl
  have hkm:k<(l.map ivI).length:=by simpa using hk
  have hst:=vl_step hkm
  obtain⟨x0,x1,x2⟩:=hv _ (List.getElem_mem hk)
  have bad:¬ VL ((l.map ivI).take (k+1))→¬ VL (l.map ivI):=fun h h'=>h (vl_take h' _)
  have hgk:(l.map ivI)[k]=(l[k].ffrom.toNat,l[k].fto.toNat):=by simp [ivI]
  refine Tot.iteT (by simpa using hk) (Tot.jnR (fun _:Unit=>VL ((l.map ivI).take (k+1))) (fun j hj => ?_) (fun u hu=>Tot.step () (by rw [hw]) hu))
  refine Tot.bindIdx k rfl hk (Tot.bindOf (compare_eq _ _) (Tot.iteF ?_ ?_))
  ·exact decide_eq_false (by split<;>(try split)<;>omega)
  refine Tot.ite (fun h0=>hj () ?_) (fun h0 => ?_)
  ·have h0:k=0:=by simpa using h0
   refine hst.2 ⟨hb,by rw [hgk];simp only;omega,fun m e=>by omega⟩
  ·have h0:k≠0:=by simpa using h0
   obtain⟨m,rfl⟩:∃ m,k=m+1:=⟨k-1,by omega⟩
   have hm:m<l.length:=by omega
   obtain⟨p0,p1,p2⟩:=hv _ (List.getElem_mem hm)
   have hgm:(l.map ivI)[m]'(by simpa using hm)=(l[m].ffrom.toNat,l[m].fto.toNat):=by simp [ivI]
   rw [w64_id (n:=((m+1:Nat):Int)-1) (by omega) (by omega)]
   refine Tot.bindIdx m (by omega) hm (Tot.bindOf (show resource_numbers_1 l[m].fto=some (l[m].fto+1,decide (l[m].fto<4294967295)) by unfold resource_numbers_1;rw [w64_id (by omega) (by omega)]) ?_)
   have good:VL ((l.map ivI).take (m+1+1))↔l[m].fto+1<l[m+1].ffrom:=by
    rw [hst]
    constructor
    ·intro h
     have:=h.2.2 m rfl
     rw [hgk,hgm] at this
     simp only at this
     omega
    ·intro h
     refine⟨hb,by rw [hgk];simp only;omega,fun q e => ?_⟩
     have:q=m:=by omega
     subst this
     rw [hgk,hgm]
     simp only
     omega
   refine Tot.jnR (fun b:Bool=>b=false↔l[m].fto+1<l[m+1].ffrom) (fun j hj => ?_) (fun b hb=>Tot.ite (fun h=>Tot.stop (bad fun h' => ?_)) (fun h=>hj () (good.2 (hb.1 h))))
   ·refine Tot.bindIdx m (by omega) hm (Tot.bindOf (compare_eq _ _) (Tot.ite (fun h=>hj true ?_) (fun h => ?_)))
    ·have h:=of_decide_eq_true h
     constructor
     ·intro e;cases e
     ·intro e
      rw [if_pos (by omega)] at h
      omega
    ·have h:=of_decide_eq_false h
     have h1:l[m].fto<l[m+1].ffrom:=by
      rcases Int.lt_or_le (l[m].fto) (l[m+1].ffrom) with g | g
      ·exact g
      ·exfalso
       rw [if_neg (by omega)] at h
       split at h<;>omega
     refine Tot.ite (fun h2 => ?_) (fun h2=>hj false ?_)
     ·refine Tot.bindOf (compare_eq _ _) (hj _ ?_)
      rw [beq_eq_false_iff_ne]
      by_cases e1:l[m].fto+1<l[m+1].ffrom
      ·rw [if_pos e1]
       exact⟨fun _=>e1,fun _=>by decide⟩
      ·rw [if_neg e1,if_neg (by omega)]
       exact⟨fun e=>(e rfl).elim,fun e=>(e1 e).elim⟩
     ·have h2:=of_decide_eq_false h2
      constructor
      ·intro _;omega
      ·intro _;rfl
   ·have:=hb.2 (good.1 h')
    rw [this] at h;cases h
 ·unfold resource_order_valid_2_L0
  refine Tot.iteF (by simp) (Tot.last ?_)
  have e:(l.map ivI).take l.length=l.map ivI:=by rw [List.take_of_length_le (by simp)]
  rw [e] at hb
  exact hb
 ·cases x with
  | inl _=>exact Tot.some ⟨fun e=>(by cases e),fun e=>absurd e hx⟩
  | inr _=>exact Tot.some ⟨fun _=>hx,fun _=>rfl⟩
def ivA (x:aRange):Iv:=(rk x.fFrom,rk x.fTo)
def ivS (x:aSpan):Iv:=(x.fFrom.toNat,x.fTo.toNat)
def AVr (l:List aRange):Prop:=∀ x∈l,aV x.fFrom∧aV x.fTo∧x.fFrom.fV6=x.fTo.fV6
def SVr (l:List aSpan):Prop:=∀ x∈l,okN x.fFrom x.fTo
structure VRes (r:aResources):Prop where
 av:AVr r.fAddrs
 va:VL (r.fAddrs.map ivA)
 sv:SVr r.fASNs
 vs:VL (r.fASNs.map ivS)
 la:r.fAddrs.length≤256
 ls:r.fASNs.length≤256
def RRes (r:aResources):Prop:=∀ x∈r.fAddrs,aR x.fFrom∧aR x.fTo
theorem VRes.R {r:aResources} (h:VRes r):RRes r:=fun x hx=>⟨(h.av x hx).1.1,(h.av x hx).2.1.1⟩
def paA (x:aRange):aAddr_:=aAddr_.mk x.fFrom x.fTo
def paS (x:aSpan):resource_part_int_:=resource_part_int_.mk x.fFrom x.fTo
theorem of_eq (r:aResources) (h1:r.fAddrs.length≤1000000000) (h2:r.fASNs.length≤1000000000):resource_of r=some (resource_set.mk (r.fAddrs.map paA) (r.fASNs.map paS)):=by
 refine Tot.eq ?_
 unfold resource_of
 refine Tot.bindRng r.fAddrs.length (fun k (b:List aAddr_)=>(((k:Nat):Int),b)) (fun k b=>b=(r.fAddrs.take k).map paA) (fun x=>x=r.fAddrs.map paA) [] rfl rfl (fun k b hk hb => ?_) (fun b hb => ?_) (fun x hx => ?_)
 ·have hw:w64 ((k:Int)+1)=((k+1:Nat):Int):=by rw [w64_id (by omega) (by omega)];rfl
  subst hb
  unfold resource_of_L0
  refine Tot.iteT (by simpa using hk) (Tot.bindIdx k rfl hk (Tot.chk (limB (by simp;omega)) (Tot.step ((r.fAddrs.take k).map paA++[paA r.fAddrs[k]]) (by rw [hw];rfl) ?_)))
  rw [take_snoc hk,List.map_append];rfl
 ·unfold resource_of_L0
  refine Tot.iteF (by simp) (Tot.last ?_)
  rw [hb,List.take_length]
 subst hx
 refine Tot.bindRng r.fASNs.length (fun k (b:List resource_part_int_)=>(((k:Nat):Int),b)) (fun k b=>b=(r.fASNs.take k).map paS) (fun x=>x=r.fASNs.map paS) [] rfl rfl (fun k b hk hb => ?_) (fun b hb => ?_) (fun x hx => ?_)
 ·have hw:w64 ((k:Int)+1)=((k+1:Nat):Int):=by rw [w64_id (by omega) (by omega)];rfl
  subst hb
  unfold resource_of_L1
  refine Tot.iteT (by simpa using hk) (Tot.bindIdx k rfl hk (Tot.chk (limB (by simp;omega)) (Tot.step ((r.fASNs.take k).map paS++[paS r.fASNs[k]]) (by rw [hw];rfl) ?_)))
  rw [take_snoc hk,List.map_append];rfl
 ·unfold resource_of_L1
  refine Tot.iteF (by simp) (Tot.last ?_)
  rw [hb,List.take_length]
 subst hx
 exact Tot.some rfl
theorem span_eq (s:aSpan):Tot (resource_span s) (fun b=>b=true↔okN s.fFrom s.fTo):=by
 unfold resource_span okN
 refine Tot.some ?_
 simp only [Bool.and_eq_true,decide_eq_true_eq]
 exact and_assoc
theorem contains_bad (l:List aSpan) (hl:l.length≤1000000000):Tot (slices_ContainsFunc l) (fun b=>b=false↔SVr l):=by
 unfold slices_ContainsFunc slices_IndexFunc
 refine Tot.bindT (P':=fun i:Int=>(0≤i∧¬ SVr l)∨(i = -1∧SVr l)) ?_ fun i hi=>Tot.some ?_
 ·refine Tot.bindRng l.length (fun k (_:Unit)=>((k:Nat):Int)) (fun k _=>∀ x∈l.take k,okN x.fFrom x.fTo) (fun x=>match x with | .inl i=>0≤i∧¬ SVr l | .inr _=>SVr l) () rfl (fun x hx=>by simp at hx) (fun k b hk hb => ?_) (fun b hb => ?_) (fun x hx => ?_)
  ·unfold slices_IndexFunc_L0
   have hw:w64 ((k:Int)+1)=((k+1:Nat):Int):=by rw [w64_id (by omega) (by omega)];rfl
   refine Tot.iteT (by simpa using hk) (Tot.bindIdx k rfl hk (Tot.bindT (P':=fun b:Bool=>b=false↔okN l[k].fFrom l[k].fTo) ?_ fun b hb2=>Tot.ite (fun h=>Tot.stop ⟨by omega,fun hs => ?_⟩) (fun h=>Tot.step () (by rw [hw]) fun x hx => ?_)))
   ·unfold resource_Valid_1
    exact Tot.bindT (span_eq _) fun b hb=>Tot.some (by rw [← hb];cases b<;>simp)
   ·have:=hb2.2 (hs _ (List.getElem_mem hk))
    rw [this] at h;cases h
   ·rw [take_snoc hk] at hx
    rcases List.mem_append.1 hx with hx | hx
    ·exact hb x hx
    ·rw [List.mem_singleton.1 hx];exact hb2.1 h
  ·unfold slices_IndexFunc_L0
   refine Tot.iteF (by simp) (Tot.last ?_)
   rw [List.take_length] at hb
   exact hb
  ·cases x with
   | inl i=>exact Tot.some (.inl hx)
   | inr _=>exact Tot.some (.inr ⟨rfl,hx⟩)
 ·rcases hi with ⟨h1,h2⟩ | ⟨h1,h2⟩
  ·rw [decide_eq_true h1]
   exact⟨fun e=>(by cases e),fun e=>(h2 e).elim⟩
  ·subst h1
   exact⟨fun _=>h2,fun _=>by decide⟩
theorem valid_eq {r:aResources} (hr:RRes r) (h1:r.fAddrs.length≤1000000) (h2:r.fASNs.length≤1000000):Tot (resource_Valid r) (fun b=>b=true↔VRes r):=by
 unfold resource_Valid
 refine Tot.bindRng r.fAddrs.length (fun k (_:Unit)=>((k:Nat):Int)) (fun k _=>AVr (r.fAddrs.take k)) (fun x=>match x with | .inl _=>¬ AVr r.fAddrs | .inr _=>AVr r.fAddrs) () rfl (fun x hx=>by simp at hx) (fun k b hk hb => ?_) (fun b hb => ?_) (fun x hx => ?_)
 ·unfold resource_Valid_L0
  have hw:w64 ((k:Int)+1)=((k+1:Nat):Int):=by rw [w64_id (by omega) (by omega)];rfl
  have hrk:=hr _ (List.getElem_mem hk)
  refine Tot.iteT (by simpa using hk) (Tot.bindIdx k rfl hk (Tot.jnR (fun b:Bool=>b=false↔aV r.fAddrs[k].fFrom∧aV r.fAddrs[k].fTo∧r.fAddrs[k].fFrom.fV6=r.fAddrs[k].fTo.fV6) (fun j hj => ?_) (fun b hb2=>Tot.ite (fun h=>Tot.stop fun hs => ?_) (fun h=>Tot.step () (by rw [hw]) fun x hx => ?_))))
  ·refine Tot.bindT (avalid_eq _ hrk.1) fun u hu=>Tot.ite (fun h=>hj true ⟨fun e=>(by cases e),fun e => ?_⟩) (fun h=>Tot.bindT (avalid_eq _ hrk.2) fun v hv=>hj _ ?_)
   ·rw [hu.2 e.1] at h;cases h
   ·have hu':=hu.1 (by simpa using h)
    rw [Bool.or_eq_false_iff,bne_eq_false_iff_eq]
    constructor
    ·rintro⟨e1,e2⟩;exact⟨hu',hv.1 (by simpa using e1),e2⟩
    ·rintro⟨_,e1,e2⟩;exact⟨by rw [hv.2 e1];rfl,e2⟩
  ·have:=hb2.2 (hs _ (List.getElem_mem hk))
   rw [this] at h;cases h
  ·rw [take_snoc hk] at hx
   rcases List.mem_append.1 hx with hx | hx
   ·exact hb x hx
   ·rw [List.mem_singleton.1 hx];exact hb2.1 h
 ·unfold resource_Valid_L0
  refine Tot.iteF (by simp) (Tot.last ?_)
  rw [List.take_length] at hb
  exact hb
 cases x with
 | inl _=>exact Tot.some ⟨fun e=>(by cases e),fun e=>(hx e.av).elim⟩
 | inr _ =>
  have hx:AVr r.fAddrs:=hx
  refine Tot.bindT (contains_bad _ (by omega)) fun b hb=>Tot.ite (fun h=>Tot.some ⟨fun e=>(by cases e),fun e => ?_⟩) (fun h=>Tot.bindOf (of_eq r (by omega) (by omega)) ?_)
  ·have:=hb.2 e.sv
   rw [this] at h;cases h
  ·have hs:SVr r.fASNs:=hb.1 h
   have eA:(r.fAddrs.map paA).map ivP=r.fAddrs.map ivA:=by rw [List.map_map];rfl
   have eS:(r.fASNs.map paS).map ivI=r.fASNs.map ivS:=by rw [List.map_map];rfl
   refine Tot.jnR (fun b:Bool=>b=true↔VRes r) (fun j hj=>Tot.ite (fun hc => ?_) (fun hc=>hj false ⟨fun e=>(by cases e),fun e => ?_⟩)) (fun b hb=>Tot.some hb)
   ·simp only [Bool.and_eq_true,decide_eq_true_eq] at hc
    refine Tot.bindT (valid_addrs (fun x hx' => ?_) (by simp only [List.length_map];omega)) fun u hu=>Tot.ite (fun h=>Tot.bindT (valid_nums (fun x hx' => ?_) (by simp only [List.length_map];omega)) fun v hv=>hj _ ?_) (fun h=>hj false ⟨fun e=>(by cases e),fun e => ?_⟩)
    ·obtain⟨y,hy,rfl⟩:=List.mem_map.1 hx'
     exact⟨(hx y hy).1,(hx y hy).2.1⟩
    ·obtain⟨y,hy,rfl⟩:=List.mem_map.1 hx'
     exact hs y hy
    ·simp only [eA] at hu
     simp only [eS] at hv
     exact⟨fun e=>⟨hx,hu.1 h,hs,hv.1 e,by omega,by omega⟩,fun e=>hv.2 e.vs⟩
    ·simp only [eA] at hu
     rw [hu.2 e.va] at h;cases h
   ·have h3:=e.la
    have h4:=e.ls
    have:(decide ((r.fAddrs.length:Int)≤256)&&decide ((r.fASNs.length:Int)≤256))=true:=by
     simp only [Bool.and_eq_true,decide_eq_true_eq];omega
    rw [this] at hc;cases hc
theorem cmpA_le {a b:aAddr} (ha:aV a) (hb:aV b):cmpA a b≤0↔rk a≤rk b:=by
 have:=cmpA_pos ha hb
 constructor
 ·intro h
  rcases Nat.lt_or_ge (rk b) (rk a) with c | c
  ·have:=this.2 c;omega
  ·exact c
 ·intro h
  rcases Int.lt_or_le 0 (cmpA a b) with c | c
  ·have:=this.1 c;omega
  ·exact c
theorem cmpA_lt {a b:aAddr} (ha:aV a) (hb:aV b):cmpA a b<0↔rk a<rk b:=by
 have h1:=cmpA_nonneg ha hb
 constructor
 ·intro h
  rcases Nat.lt_or_ge (rk a) (rk b) with c | c
  ·exact c
  ·have:=h1.2 c;omega
 ·intro h
  rcases Int.lt_or_le (cmpA a b) 0 with c | c
  ·exact c
  ·have:=h1.1 c;omega
def srtA (l:List aRange):Prop:=l.Pairwise fun x y=>rk x.fFrom≤rk y.fFrom
theorem place_tot {k0:Int} {s:List aRange} {x:aRange} (hs:AVr s) (hx:aV x.fFrom) (hl:s.length≤1000000):Tot (loop (xref21_ranges_L1 (k0,s) x) (0:Int)) (fun i=>∃ p:Nat,i=p∧p≤s.length∧(∀ y∈s.take p,rk y.fFrom≤rk x.fFrom)∧∀ (hp:p<s.length),rk x.fFrom<rk s[p].fFrom):=by
 refine Tot.rng s.length (fun k (_:Unit)=>((k:Nat):Int)) (fun k _=>∀ y∈s.take k,rk y.fFrom≤rk x.fFrom) _ () rfl (fun y hy=>by simp at hy) (fun k b hk hb => ?_) (fun b hb => ?_)
 ·unfold xref21_ranges_L1
  have hw:w64 ((k:Int)+1)=((k+1:Nat):Int):=by rw [w64_id (by omega) (by omega)];rfl
  have hy:=hs _ (List.getElem_mem hk)
  refine Tot.jnR (fun b:Bool=>b=true↔rk s[k].fFrom≤rk x.fFrom) (fun j hj=>Tot.iteT (by simpa using hk) (Tot.bindIdx k rfl hk (Tot.bindIdx k rfl hk (Tot.bindOf (racmp_eq hy.1.1 hx.1) (hj _ ?_))))) (fun b hb2=>Tot.ite (fun h=>Tot.step () (by rw [hw]) fun y hy2 => ?_) (fun h=>Tot.stop ⟨k,rfl,by omega,hb,fun hp => ?_⟩))
  ·rw [decide_eq_true_iff];exact cmpA_le hy.1 hx
  ·rw [take_snoc hk] at hy2
   rcases List.mem_append.1 hy2 with hy2 | hy2
   ·exact hb y hy2
   ·rw [List.mem_singleton.1 hy2];exact hb2.1 h
  ·rcases Nat.lt_or_ge (rk x.fFrom) (rk s[k].fFrom) with c | c
   ·exact c
   ·rw [hb2.2 c] at h;cases h
 ·unfold xref21_ranges_L1
  refine Tot.jnR (fun b:Bool=>b=false) (fun j hj=>Tot.iteF (by simp) (hj _ rfl)) (fun b hb2=>Tot.iteF hb2 (Tot.last ⟨s.length,rfl,Nat.le_refl _,?_,fun hp=>by omega⟩))
  exact hb
theorem sort_tot {l:List aRange} (hv:AVr l) (hl:l.length≤1000000):Tot (loop (xref21_ranges_L0 l) ((0:Int),([]:List aRange))) (fun s=>s.Perm l∧srtA s):=by
 refine Tot.rng l.length (fun k (b:List aRange)=>(((k:Nat):Int),b)) (fun k b=>b.Perm (l.take k)∧srtA b) _ [] rfl ⟨List.Perm.refl _,.nil⟩ (fun k b hk hb => ?_) (fun b hb => ?_)
 ·obtain⟨hb1,hb2⟩:=hb
  have hw:w64 ((k:Int)+1)=((k+1:Nat):Int):=by rw [w64_id (by omega) (by omega)];rfl
  have hbl:=hb1.length_eq
  rw [List.length_take,Nat.min_eq_left (by omega)] at hbl
  have hbv:AVr b:=fun y hy=>hv y (List.mem_of_mem_take (hb1.mem_iff.1 hy))
  have hx:=hv _ (List.getElem_mem hk)
  unfold xref21_ranges_L0
  refine Tot.iteT (by simpa using hk) (Tot.bindIdx k rfl hk (Tot.bindT (place_tot hbv hx.1 (by omega)) fun i hi => ?_))
  obtain⟨p,rfl,hp1,hp2,hp3⟩:=hi
  refine Tot.chk (by simp;omega) (Tot.chk (limB (by simp;omega)) (Tot.chk (limB (by simp;omega)) (Tot.chk (by simp;omega) (Tot.chk (limB (by simp;omega)) (Tot.step (b.take p++[l[k]]++b.drop p) (by rw [hw];simp) ⟨?_,?_⟩)))))
  ·rw [take_snoc hk]
   refine List.Perm.trans ?_ (List.Perm.append_right _ hb1)
   rw [List.append_assoc]
   refine List.Perm.trans (List.perm_append_comm_assoc _ _ _) ?_
   rw [List.take_append_drop]
   exact List.perm_append_comm
  ·have e:=(List.take_append_drop p b).symm
   rw [e] at hb2
   obtain⟨s1,s2,s3⟩:=List.pairwise_append.1 hb2
   have later:∀ y∈b.drop p,rk l[k].fFrom≤rk y.fFrom:=fun y hy=>by
    rcases Nat.lt_or_ge p b.length with c | c
    ·rw [List.drop_eq_getElem_cons c] at hy s2
     have h3:=hp3 c
     rcases List.mem_cons.1 hy with rfl | hy
     ·omega
     ·have:=(List.pairwise_cons.1 s2).1 y hy
      omega
    ·rw [List.drop_eq_nil_of_le c] at hy;cases hy
   refine List.pairwise_append.2 ⟨List.pairwise_append.2 ⟨s1,List.pairwise_singleton _ _,fun y hy z hz => ?_⟩,s2,fun y hy z hz => ?_⟩
   ·rw [List.mem_singleton.1 hz];exact hp2 y hy
   ·rcases List.mem_append.1 hy with hy | hy
    ·exact s3 y hy z hz
    ·rw [List.mem_singleton.1 hy];exact later z hz
 ·unfold xref21_ranges_L0
  refine Tot.iteF (by simp) (Tot.last ?_)
  rw [List.take_length] at hb
  exact hb
theorem rk_far {a b:aAddr} (ha:aV a) (h1:a.fV6=false) (h2:b.fV6=true):rk a+1<rk b:=by
 have:=rk4 ha h1
 have:=rk6 h2
 omega
theorem rk_last {a b:aAddr} (ha:aV a) (hb:aV b) (hv:a.fV6=b.fV6) (h:(NextF a).2=false):rk b≤rk a:=by
 have h1:=next_none ha hb h
 unfold NextF at h
 by_cases c:nA a+1<2 ^ wid a.fV6
 ·rw [if_pos c] at h;cases h
 ·have hl:=aV_lt hb
  rw [← hv] at hl
  unfold rk
  rw [hv]
  split<;>omega
theorem touch_iff {t x:aRange} (ht:aV t.fFrom∧aV t.fTo∧t.fFrom.fV6=t.fTo.fV6) (hx:aV x.fFrom) (hle:rk t.fFrom≤rk x.fFrom) :
  (t.fTo.fV6=x.fFrom.fV6∧((NextF t.fTo).2=false∨cmpA x.fFrom (NextF t.fTo).1≤0))↔¬ rk t.fTo+1<rk x.fFrom:=by
 constructor
 ·rintro⟨h1,h2 | h2⟩
  ·have:=rk_last ht.2.1 hx h1 h2
   omega
  ·cases h3:(NextF t.fTo).2 with
   | false =>
    have:=rk_last ht.2.1 hx h1 h3
    omega
   | true =>
    obtain⟨n1,n2,_⟩:=next_rk h3
    have:=(cmpA_le hx n1).1 h2
    omega
 ·intro h
  have h1:t.fTo.fV6=x.fFrom.fV6:=by
   cases e1:t.fTo.fV6<;>cases e2:x.fFrom.fV6
   ·rfl
   ·exact(h (rk_far ht.2.1 e1 e2)).elim
   ·have:=rk4 hx e2
    have:=rk6 (ht.2.2.trans e1)
    omega
   ·rfl
  refine⟨h1,?_⟩
  cases h3:(NextF t.fTo).2 with
  | false=>exact .inl rfl
  | true =>
   obtain⟨n1,n2,_⟩:=next_rk h3
   exact .inr ((cmpA_le hx n1).2 (by omega))
theorem merge_tot {s:List aRange} (hv:AVr s) (hk:okI (s.map ivA)) (hs:srtA s) (hl:s.length≤1000000):Tot (loop (xref21_ranges_L2 s) ((0:Int),([]:List aRange))) (fun out=>AVr out∧out.map ivA=mergeL (s.map ivA)∧out.length≤s.length):=by
 refine Tot.rng s.length (fun k (b:List aRange)=>(((k:Nat):Int),b)) (fun k b=>AVr b∧b.map ivA=mergeL ((s.map ivA).take k)∧b.length≤k) _ [] rfl ⟨fun x hx=>(by cases hx),by simp [mergeL],Nat.le_refl _⟩ (fun k b hk2 hb => ?_) (fun b hb => ?_)
 ·obtain⟨b1,b2,b3⟩:=hb
  have hw:w64 ((k:Int)+1)=((k+1:Nat):Int):=by rw [w64_id (by omega) (by omega)];rfl
  have hx:=hv _ (List.getElem_mem hk2)
  have hkm:k<(s.map ivA).length:=by simpa using hk2
  have hgk:(s.map ivA)[k]=ivA s[k]:=by simp
  have hms:mergeL ((s.map ivA).take (k+1))=mstep (b.map ivA) (ivA s[k]):=by rw [take_snoc hkm,mergeL_snoc,← b2,hgk]
  unfold xref21_ranges_L2
  refine Tot.iteT (by simpa using hk2) (Tot.jnR (fun m:List aRange=>AVr m∧m.map ivA=mergeL ((s.map ivA).take (k+1))∧m.length≤k+1) (fun j hj => ?_) (fun m hm=>Tot.step m (by rw [hw]) hm))
  rw [hms] at hj
  refine Tot.bindIdx k rfl hk2 (Tot.bindIdx k rfl hk2 ?_)
  refine Tot.jnR (fun _:Unit=>mstep (b.map ivA) (ivA s[k])=b.map ivA++[ivA s[k]]) (fun j2 hj2 => ?_) (fun u hu=>Tot.chk (limB (by simp;omega)) (hj _ ⟨fun y hy => ?_,by rw [hu,List.map_append];rfl,by simp;omega⟩))
  ·rcases List.eq_nil_or_concat b with e | ⟨a,t,e⟩
   ·subst e
    exact Tot.iteF (by simp) (hj2 () rfl)
   ·rw [List.concat_eq_append] at e
    subst e
    have ht:=b1 t (by simp)
    have hlen:(a++[t]).length=a.length+1:=by simp
    have hle:rk t.fFrom≤rk s[k].fFrom:=by
     have hok:okI ((s.map ivA).take k):=fun y hy=>hk y (List.mem_of_mem_take hy)
     have hsr:((s.map ivA).take k).Pairwise (fun x y=>x.1≤y.1):=by
      rw [← List.map_take,List.pairwise_map]
      exact hs.sublist (List.take_sublist _ _)
     have h3:=(merge_ok _ hok hsr).2.2 (ivA t) (by rw [← b2];simp)
     obtain⟨y,hy,e⟩:=h3
     rw [← List.map_take] at hy
     obtain⟨z,hz,rfl⟩:=List.mem_map.1 hy
     obtain⟨i,hi,rfl⟩:=List.mem_take_iff_getElem.1 hz
     have:=List.pairwise_iff_getElem.1 hs i k (by omega) hk2 (by omega)
     show(ivA t).1≤_
     rw [e]
     exact this
    have hmm:mstep ((a++[t]).map ivA) (ivA s[k])=if rk t.fTo+1<rk s[k].fFrom then a.map ivA++[ivA t]++[ivA s[k]] else if rk t.fTo<rk s[k].fTo then a.map ivA++[(rk t.fFrom,rk s[k].fTo)] else a.map ivA++[ivA t]:=by
     rw [List.map_append]
     exact mstep_snoc (a.map ivA) (ivA t) (ivA s[k])
    have hget:(a++[t])[a.length]'(by simp)=t:=by simp
    refine Tot.iteT (by simp) ?_
    rw [hlen,w64_id (n:=((a.length+1:Nat):Int)-1) (by omega) (by omega)]
    refine Tot.bindIdx a.length (by omega) (by simp) (Tot.bindIdx a.length (by omega) (by simp) ?_)
    rw [hget]
    refine Tot.bindOf (rnext_eq ht.2.1) (Tot.jnR (fun m:Bool=>m=true↔¬ rk t.fTo+1<rk s[k].fFrom) (fun j3 hj3 => ?_) (fun m hm=>Tot.ite (fun h => ?_) (fun h=>hj2 () ?_)))
    ·refine Tot.bindIdx a.length (by omega) (by simp) ?_
     rw [hget]
     have ti:=touch_iff ht hx.1 hle
     refine Tot.ite (fun h => ?_) (fun h=>hj3 false ?_)
     ·have h:=beq_iff_eq.1 h
      refine Tot.ite (fun h2=>hj3 true ?_) (fun h2 => ?_)
      ·exact⟨fun _=>ti.1 ⟨h,.inl (by simpa using h2)⟩,fun _=>rfl⟩
      ·have h2:(NextF t.fTo).2=true:=by simpa using h2
       obtain⟨n1,_,_⟩:=next_rk h2
       refine Tot.bindOf (racmp_eq hx.1.1 n1.1) (hj3 _ ?_)
       rw [decide_eq_true_iff,← ti]
       constructor
       ·intro e;exact⟨h,.inr e⟩
       ·rintro⟨_,e | e⟩
        ·rw [h2] at e;cases e
        ·exact e
     ·constructor
      ·intro e;cases e
      ·intro e
       have:=(ti.2 e).1
       rw [this] at h
       simp at h
    ·have c1:=hm.1 h
     refine Tot.bindIdx a.length (by omega) (by simp) ?_
     rw [hget]
     refine Tot.bindOf (racmp_eq ht.2.1.1 hx.2.1.1) (Tot.ite (fun h2 => ?_) (fun h2=>hj _ ?_))
     ·have c2:=(cmpA_lt ht.2.1 hx.2.1).1 (of_decide_eq_true h2)
      refine Tot.bindIdx a.length (by omega) (by simp) ?_
      rw [hget]
      have hset:(a++[t]).set (((a.length+1:Nat):Int)-1).toNat (aRange.mk t.fFrom s[k].fTo)=a++[aRange.mk t.fFrom s[k].fTo]:=by
       have:(((a.length+1:Nat):Int)-1).toNat=a.length:=by omega
       rw [this,List.set_append_right _ _ (Nat.le_refl _),Nat.sub_self];rfl
      rw [hset]
      have hfam:t.fTo.fV6=s[k].fFrom.fV6:=((touch_iff ht hx.1 hle).2 c1).1
      refine hj _ ⟨fun y hy => ?_,?_,by simp;omega⟩
      ·rcases List.mem_append.1 hy with hy | hy
       ·exact b1 y (List.mem_append_left _ hy)
       ·rw [List.mem_singleton.1 hy]
        exact⟨ht.1,hx.2.1,(ht.2.2.trans hfam).trans hx.2.2⟩
      ·rw [hmm,if_neg c1,if_pos c2,List.map_append];rfl
     ·have c2:¬ rk t.fTo<rk s[k].fTo:=fun e=>of_decide_eq_false h2 ((cmpA_lt ht.2.1 hx.2.1).2 e)
      refine⟨b1,?_,Nat.le_succ_of_le b3⟩
      rw [hmm,if_neg c1,if_neg c2,List.map_append];rfl
    ·have c1:rk t.fTo+1<rk s[k].fFrom:=by
      rcases Nat.lt_or_ge (rk t.fTo+1) (rk s[k].fFrom) with c | c
      ·exact c
      ·rw [hm.2 (by omega)] at h;cases h
     rw [hmm,if_pos c1,List.map_append];rfl
  ·rcases List.mem_append.1 hy with hy | hy
   ·exact b1 y hy
   ·rw [List.mem_singleton.1 hy];exact hx
 ·unfold xref21_ranges_L2
  refine Tot.iteF (by simp) (Tot.last ?_)
  rw [List.take_of_length_le (by simp)] at hb
  exact hb
theorem inI_perm {l m:List Iv} (h:l.Perm m) (n:Nat):inI n l↔inI n m:=by
 unfold inI
 constructor
 ·rintro⟨x,hx,e⟩;exact⟨x,h.mem_iff.1 hx,e⟩
 ·rintro⟨x,hx,e⟩;exact⟨x,h.mem_iff.2 hx,e⟩
theorem ranges_tot {l:List aRange} (hv:AVr l) (hk:okI (l.map ivA)) (hl:l.length≤1000000):Tot (xref21_ranges l) (fun r=>AVr r∧VL (r.map ivA)∧(∀ n,inI n (r.map ivA)↔inI n (l.map ivA))∧r.length≤l.length):=by
 unfold xref21_ranges
 refine Tot.bindT (sort_tot hv hl) fun s hs => ?_
 obtain⟨s1,s2⟩:=hs
 have hsl:=s1.length_eq
 have sv:AVr s:=fun y hy=>hv y (s1.mem_iff.1 hy)
 have sk:okI (s.map ivA):=fun y hy=>hk y ((s1.map ivA).mem_iff.1 hy)
 refine Tot.bindT (merge_tot sv sk s2 (by omega)) fun r hr=>Tot.some ?_
 obtain⟨r1,r2,r3⟩:=hr
 have hm:=merge_ok (s.map ivA) sk (by rw [List.pairwise_map];exact s2)
 rw [← r2] at hm
 exact⟨r1,hm.1,fun n=>(hm.2.1 n).trans (inI_perm (s1.map ivA) n),by omega⟩
def srtS (l:List aSpan):Prop:=l.Pairwise fun x y=>x.fFrom≤y.fFrom
theorem placeS_tot {k0:Int} {s:List aSpan} {x:aSpan} (hl:s.length≤1000000):Tot (loop (xref21_spans_L1 (k0,s) x) (0:Int)) (fun i=>∃ p:Nat,i=p∧p≤s.length∧(∀ y∈s.take p,y.fFrom≤x.fFrom)∧∀ (hp:p<s.length),x.fFrom<s[p].fFrom):=by
 refine Tot.rng s.length (fun k (_:Unit)=>((k:Nat):Int)) (fun k _=>∀ y∈s.take k,y.fFrom≤x.fFrom) _ () rfl (fun y hy=>by simp at hy) (fun k b hk hb => ?_) (fun b hb => ?_)
 ·unfold xref21_spans_L1
  have hw:w64 ((k:Int)+1)=((k+1:Nat):Int):=by rw [w64_id (by omega) (by omega)];rfl
  refine Tot.jnR (fun b:Bool=>b=true↔s[k].fFrom≤x.fFrom) (fun j hj=>Tot.iteT (by simpa using hk) (Tot.bindIdx k rfl hk (Tot.bindIdx k rfl hk (hj _ (by rw [decide_eq_true_iff]))))) (fun b hb2=>Tot.ite (fun h=>Tot.step () (by rw [hw]) fun y hy2 => ?_) (fun h=>Tot.stop ⟨k,rfl,by omega,hb,fun hp => ?_⟩))
  ·rw [take_snoc hk] at hy2
   rcases List.mem_append.1 hy2 with hy2 | hy2
   ·exact hb y hy2
   ·rw [List.mem_singleton.1 hy2];exact hb2.1 h
  ·rcases Int.lt_or_le x.fFrom s[k].fFrom with c | c
   ·exact c
   ·rw [hb2.2 c] at h;cases h
 ·unfold xref21_spans_L1
  refine Tot.jnR (fun b:Bool=>b=false) (fun j hj=>Tot.iteF (by simp) (hj _ rfl)) (fun b hb2=>Tot.iteF hb2 (Tot.last ⟨s.length,rfl,Nat.le_refl _,?_,fun hp=>by omega⟩))
  exact hb
theorem sortS_tot {l:List aSpan} (hl:l.length≤1000000):Tot (loop (xref21_spans_L0 l) ((0:Int),([]:List aSpan))) (fun s=>s.Perm l∧srtS s):=by
 refine Tot.rng l.length (fun k (b:List aSpan)=>(((k:Nat):Int),b)) (fun k b=>b.Perm (l.take k)∧srtS b) _ [] rfl ⟨List.Perm.refl _,.nil⟩ (fun k b hk hb => ?_) (fun b hb => ?_)
 ·obtain⟨hb1,hb2⟩:=hb
  have hw:w64 ((k:Int)+1)=((k+1:Nat):Int):=by rw [w64_id (by omega) (by omega)];rfl
  have hbl:=hb1.length_eq
  rw [List.length_take,Nat.min_eq_left (by omega)] at hbl
  unfold xref21_spans_L0
  refine Tot.iteT (by simpa using hk) (Tot.bindIdx k rfl hk (Tot.bindT (placeS_tot (by omega)) fun i hi => ?_))
  obtain⟨p,rfl,hp1,hp2,hp3⟩:=hi
  refine Tot.chk (by simp;omega) (Tot.chk (limB (by simp;omega)) (Tot.chk (limB (by simp;omega)) (Tot.chk (by simp;omega) (Tot.chk (limB (by simp;omega)) (Tot.step (b.take p++[l[k]]++b.drop p) (by rw [hw];simp) ⟨?_,?_⟩)))))
  ·rw [take_snoc hk]
   refine List.Perm.trans ?_ (List.Perm.append_right _ hb1)
   rw [List.append_assoc]
   refine List.Perm.trans (List.perm_append_comm_assoc _ _ _) ?_
   rw [List.take_append_drop]
   exact List.perm_append_comm
  ·have e:=(List.take_append_drop p b).symm
   rw [e] at hb2
   obtain⟨s1,s2,s3⟩:=List.pairwise_append.1 hb2
   have later:∀ y∈b.drop p,l[k].fFrom≤y.fFrom:=fun y hy=>by
    rcases Nat.lt_or_ge p b.length with c | c
    ·rw [List.drop_eq_getElem_cons c] at hy s2
     have h3:=hp3 c
     rcases List.mem_cons.1 hy with rfl | hy
     ·omega
     ·have:=(List.pairwise_cons.1 s2).1 y hy
      omega
    ·rw [List.drop_eq_nil_of_le c] at hy;cases hy
   refine List.pairwise_append.2 ⟨List.pairwise_append.2 ⟨s1,List.pairwise_singleton _ _,fun y hy z hz => ?_⟩,s2,fun y hy z hz => ?_⟩
   ·rw [List.mem_singleton.1 hz];exact hp2 y hy
   ·rcases List.mem_append.1 hy with hy | hy
    ·exact s3 y hy z hz
    ·rw [List.mem_singleton.1 hy];exact later z hz
 ·unfold xref21_spans_L0
  refine Tot.iteF (by simp) (Tot.last ?_)
  rw [List.take_length] at hb
  exact hb
theorem mergeS_tot {s:List aSpan} (hv:SVr s) (hl:s.length≤1000000):Tot (loop (xref21_spans_L2 s) ((0:Int),([]:List aSpan))) (fun out=>SVr out∧out.map ivS=mergeL (s.map ivS)∧out.length≤s.length):=by
 refine Tot.rng s.length (fun k (b:List aSpan)=>(((k:Nat):Int),b)) (fun k b=>SVr b∧b.map ivS=mergeL ((s.map ivS).take k)∧b.length≤k) _ [] rfl ⟨fun x hx=>(by cases hx),by simp [mergeL],Nat.le_refl _⟩ (fun k b hk2 hb => ?_) (fun b hb => ?_)
 ·obtain⟨b1,b2,b3⟩:=hb
  have hw:w64 ((k:Int)+1)=((k+1:Nat):Int):=by rw [w64_id (by omega) (by omega)];rfl
  have hx:=hv _ (List.getElem_mem hk2)
  obtain⟨x0,x1,x2⟩:=hx
  have hkm:k<(s.map ivS).length:=by simpa using hk2
  have hgk:(s.map ivS)[k]=ivS s[k]:=by simp
  have hms:mergeL ((s.map ivS).take (k+1))=mstep (b.map ivS) (ivS s[k]):=by rw [take_snoc hkm,mergeL_snoc,← b2,hgk]
  unfold xref21_spans_L2
  refine Tot.iteT (by simpa using hk2) (Tot.jnR (fun m:List aSpan=>SVr m∧m.map ivS=mergeL ((s.map ivS).take (k+1))∧m.length≤k+1) (fun j hj => ?_) (fun m hm=>Tot.step m (by rw [hw]) hm))
  rw [hms] at hj
  refine Tot.bindIdx k rfl hk2 (Tot.bindIdx k rfl hk2 ?_)
  have app:SVr (b++[s[k]]):=fun y hy=>by
   rcases List.mem_append.1 hy with hy | hy
   ·exact b1 y hy
   ·rw [List.mem_singleton.1 hy];exact⟨x0,x1,x2⟩
  rcases List.eq_nil_or_concat b with e | ⟨a,t,e⟩
  ·subst e
   refine Tot.jnR (fun m:Bool=>m=false) (fun j2 hj2=>Tot.iteF (by simp) (hj2 _ rfl)) (fun m hm=>Tot.iteF hm (Tot.chk (limB (by simp)) (hj _ ⟨app,rfl,by simp⟩)))
  ·rw [List.concat_eq_append] at e
   subst e
   obtain⟨t0,t1,t2⟩:=b1 t (by simp)
   have hlen:(a++[t]).length=a.length+1:=by simp
   have hget:(a++[t])[a.length]'(by simp)=t:=by simp
   have hmm:mstep ((a++[t]).map ivS) (ivS s[k])=if t.fTo.toNat+1<s[k].fFrom.toNat then a.map ivS++[ivS t]++[ivS s[k]] else if t.fTo.toNat<s[k].fTo.toNat then a.map ivS++[(t.fFrom.toNat,s[k].fTo.toNat)] else a.map ivS++[ivS t]:=by
    rw [List.map_append]
    exact mstep_snoc (a.map ivS) (ivS t) (ivS s[k])
   refine Tot.jnR (fun m:Bool=>m=true↔s[k].fFrom≤t.fTo+1) (fun j2 hj2=>Tot.iteT (by simp) ?_) (fun m hm=>Tot.ite (fun h => ?_) (fun h=>Tot.chk (limB (by simp;omega)) (hj _ ⟨app,?_,by simp;omega⟩)))
   ·rw [hlen,w64_id (n:=((a.length+1:Nat):Int)-1) (by omega) (by omega)]
    refine Tot.bindIdx a.length (by omega) (by simp) (Tot.bindIdx a.length (by omega) (by simp) ?_)
    rw [hget]
    rw [w64_id (n:=t.fTo+1) (by omega) (by omega)]
    exact hj2 _ (by rw [decide_eq_true_iff])
   ·have c:=hm.1 h
    rw [hlen,w64_id (n:=((a.length+1:Nat):Int)-1) (by omega) (by omega)]
    refine Tot.bindIdx a.length (by omega) (by simp) (Tot.bindIdx a.length (by omega) (by simp) (Tot.bindIdx a.length (by omega) (by simp) (Tot.bindIdx a.length (by omega) (by simp) ?_)))
    rw [hget]
    have hset:(a++[t]).set (((a.length+1:Nat):Int)-1).toNat (aSpan.mk t.fFrom (maxI t.fTo s[k].fTo))=a++[aSpan.mk t.fFrom (maxI t.fTo s[k].fTo)]:=by
     have:(((a.length+1:Nat):Int)-1).toNat=a.length:=by omega
     rw [this,List.set_append_right _ _ (Nat.le_refl _),Nat.sub_self];rfl
    rw [hset]
    refine hj _ ⟨fun y hy => ?_,?_,by simp;omega⟩
    ·rcases List.mem_append.1 hy with hy | hy
     ·exact b1 y (List.mem_append_left _ hy)
     ·rw [List.mem_singleton.1 hy]
      unfold okN maxI
      simp only
      split<;>omega
    ·rw [hmm,if_neg (by omega),List.map_append]
     by_cases c2:t.fTo.toNat<s[k].fTo.toNat
     ·rw [if_pos c2]
      have:maxI t.fTo s[k].fTo=s[k].fTo:=by unfold maxI;rw [if_pos (by omega)]
      rw [this];rfl
     ·rw [if_neg c2]
      have:maxI t.fTo s[k].fTo=t.fTo:=by unfold maxI;split<;>omega
      rw [this];rfl
   ·have c:¬ s[k].fFrom≤t.fTo+1:=fun e=>by rw [hm.2 e] at h;cases h
    rw [hmm,if_pos (by omega),List.map_append,List.map_append];rfl
 ·unfold xref21_spans_L2
  refine Tot.iteF (by simp) (Tot.last ?_)
  rw [List.take_of_length_le (by simp)] at hb
  exact hb
theorem spans_tot {l:List aSpan} (hv:SVr l) (hl:l.length≤1000000):Tot (xref21_spans l) (fun r=>SVr r∧VL (r.map ivS)∧(∀ n,inI n (r.map ivS)↔inI n (l.map ivS))∧r.length≤l.length):=by
 unfold xref21_spans
 refine Tot.bindT (sortS_tot hl) fun s hs => ?_
 obtain⟨s1,s2⟩:=hs
 have hsl:=s1.length_eq
 have sv:SVr s:=fun y hy=>hv y (s1.mem_iff.1 hy)
 refine Tot.bindT (mergeS_tot sv (by omega)) fun r hr=>Tot.some ?_
 obtain⟨r1,r2,r3⟩:=hr
 have sk:okI (s.map ivS):=fun y hy=>by
  obtain⟨z,hz,rfl⟩:=List.mem_map.1 hy
  obtain⟨z0,z1,z2⟩:=sv z hz
  unfold ivS
  simp only
  omega
 have hm:=merge_ok (s.map ivS) sk (by
  rw [List.pairwise_map]
  refine s2.imp_of_mem fun {a b} ha hb h => ?_
  obtain⟨z0,z1,z2⟩:=sv a ha
  unfold ivS
  simp only
  omega)
 rw [← r2] at hm
 exact⟨r1,hm.1,fun n=>(hm.2.1 n).trans (inI_perm (s1.map ivS) n),by omega⟩
theorem mod_eq (a m:Int) (hm:0<m) (hb:m≤4611686018427387904):xmake_Mod a m=some (a % m):=by
 obtain⟨h0,h1⟩:=emod_lt' a hm
 unfold xmake_Mod
 refine chk_of (by simp;omega) ?_
 unfold jn
 rcases tmod_emod a hm with h | ⟨h,hn⟩
 ·rw [h]
  exact ite_of_f (by simp;omega) rfl
 ·rw [h]
  refine ite_of_t (by simp;omega) ?_
  rw [show a % m-m+m=a % m from by omega,w64_id (by omega) (by omega)]
def DeckOk (d:xmake_Deck):Prop:=0≤d.fAt∧d.fAt≤d.fL.length∧d.fL.length≤9223372036854775807
theorem next_tot (d:xmake_Deck) (hd:DeckOk d) (n:Int) (hn:0<n) (hn':n≤4611686018427387904):Tot (xmake_Deck_Next d n) (fun x=>0≤x.1∧x.1<n∧DeckOk x.2):=by
 obtain⟨h0,h1,h2⟩:=hd
 unfold xmake_Deck_Next
 by_cases h:(d.fL.length:Int)≤d.fAt
 ·exact Tot.iteT (by simpa using h) (Tot.some ⟨by simp,hn,h0,h1,h2⟩)
 ·obtain⟨k,hk⟩:∃ k:Nat,d.fAt=k:=⟨d.fAt.toNat,by omega⟩
  have hlt:k<d.fL.length:=by omega
  obtain⟨m0,m1⟩:=emod_lt' d.fL[k] hn
  refine Tot.iteF (by simpa using h) ?_
  rw [w64_id (n:=d.fAt+1) (by omega) (by omega),w64_id (n:=d.fAt+1-1) (by omega) (by omega),show d.fAt+1-1=(k:Int) from by omega]
  refine Tot.bindIdx k rfl hlt (Tot.bindOf (mod_eq _ n hn hn') (Tot.some ⟨m0,m1,by simp only;omega,by simp only;omega,h2⟩))
theorem new_ok (l:List Int) (hl:l.length≤9223372036854775807):DeckOk ⟨l,0⟩:=⟨Int.le_refl _,by simp only;omega,hl⟩
theorem i64_id {n:Int} (h:-9223372036854775808≤n) (h':n≤9223372036854775807):IntKind.i64.wrap n=n:=by
 rw [IntWalk.i64_left,IntWalk.wrap64_in n ⟨h,h'⟩]
theorem u64_rng (n:Int):0≤IntKind.u64.wrap n∧IntKind.u64.wrap n<18446744073709551616:=by
 rw [IntKind.wrap_u64];omega
theorem aV_four {n:Int} (h0:0≤n) (h1:n<4294967296):aV (aAddr.mk false 0 n):=⟨⟨⟨by simp,by simp⟩,h0,by simp only;omega⟩,.inr ⟨rfl,h1⟩⟩
theorem aV_six {m n:Int} (h0:0≤m∧m<18446744073709551616) (h1:0≤n∧n<18446744073709551616):aV (aAddr.mk true m n):=⟨⟨h0,h1⟩,.inl rfl⟩
theorem addr_tot (d:xmake_Deck) (hd:DeckOk d):Tot (xmake_Deck_Addr d) (fun x=>aV x.1∧DeckOk x.2):=by
 unfold xmake_Deck_Addr
 refine Tot.bindT (next_tot d hd 6 (by omega) (by omega)) ?_
 rintro⟨r,d⟩ ⟨_,_,hd⟩
 simp only at hd ⊢
 refine Tot.ite (fun _ => ?_) (fun _=>Tot.ite (fun _ => ?_) (fun _=>Tot.ite (fun _ => ?_) (fun _=>Tot.ite (fun _ => ?_) (fun _=>Tot.ite (fun _ => ?_) (fun _ => ?_)))))
 ·refine Tot.bindT (next_tot d hd 8 (by omega) (by omega)) ?_
  rintro⟨a,d⟩ ⟨a0,a1,hd⟩
  refine Tot.bindT (next_tot d hd 4 (by omega) (by omega)) ?_
  rintro⟨b,d⟩ ⟨b0,b1,hd⟩
  simp only at a0 a1 b0 b1 hd ⊢
  have e:shlI .i64 a 8=a*256:=by
   show IntKind.i64.wrap (a*256)=_
   rw [i64_id (by omega) (by omega)]
  rw [e,w64_id (n:=167772160+a*256) (by omega) (by omega),w64_id (n:=167772160+a*256+b) (by omega) (by omega),IntKind.wrap_u64]
  exact Tot.some ⟨aV_four (by omega) (by omega),hd⟩
 ·refine Tot.bindT (next_tot d hd 4 (by omega) (by omega)) ?_
  rintro⟨a,d⟩ ⟨a0,a1,hd⟩
  refine Tot.bindT (next_tot d hd 8 (by omega) (by omega)) ?_
  rintro⟨b,d⟩ ⟨b0,b1,hd⟩
  exact Tot.some ⟨aV_six (u64_rng _) (u64_rng _),hd⟩
 ·refine Tot.bindT (next_tot d hd 5 (by omega) (by omega)) ?_
  rintro⟨a,d⟩ ⟨a0,a1,hd⟩
  simp only at a0 a1 hd ⊢
  have e:a=0∨a=1∨a=2∨a=3∨a=4:=by omega
  rcases e with rfl | rfl | rfl | rfl | rfl<;>exact Tot.bindOf rfl (Tot.some ⟨aV_four (by decide) (by decide),hd⟩)
 ·refine Tot.bindT (next_tot d hd 4 (by omega) (by omega)) ?_
  rintro⟨a,d⟩ ⟨a0,a1,hd⟩
  simp only at a0 a1 hd ⊢
  have key:∀ x:Int,0≤x→x<4→Tot (idx ([(0:Int),(1:Int),(18446744073709551615:Int),(9223372036854775808:Int)]:List Int) x) (fun y=>0≤y∧y<18446744073709551616):=fun x h0 h1=>by
   have e:x=0∨x=1∨x=2∨x=3:=by omega
   rcases e with rfl | rfl | rfl | rfl<;>exact⟨_,rfl,by decide,by decide⟩
  refine Tot.bindT (key a a0 a1) fun x hx=>Tot.bindT (next_tot d hd 4 (by omega) (by omega)) ?_
  rintro⟨b,d⟩ ⟨b0,b1,hd⟩
  exact Tot.bindT (key b b0 b1) fun y hy=>Tot.some ⟨aV_six hx hy,hd⟩
 ·refine Tot.bindT (next_tot d hd 1073741824 (by omega) (by omega)) ?_
  rintro⟨a,d⟩ ⟨_,_,hd⟩
  refine Tot.bindT (next_tot d hd 5 (by omega) (by omega)) ?_
  rintro⟨b,d⟩ ⟨_,_,hd⟩
  refine Tot.bindT (next_tot d hd 1073741824 (by omega) (by omega)) ?_
  rintro⟨c,d⟩ ⟨_,_,hd⟩
  refine Tot.bindT (next_tot d hd 5 (by omega) (by omega)) ?_
  rintro⟨e,d⟩ ⟨_,_,hd⟩
  exact Tot.some ⟨aV_six (u64_rng _) (u64_rng _),hd⟩
 ·refine Tot.bindT (next_tot d hd 1073741824 (by omega) (by omega)) ?_
  rintro⟨a,d⟩ ⟨a0,a1,hd⟩
  simp only at a0 a1 hd ⊢
  rw [IntKind.wrap_u64]
  exact Tot.some ⟨aV_four (by omega) (by omega),hd⟩
theorem prefix_tot (d:xmake_Deck) (hd:DeckOk d):Tot (xmake_Deck_Prefix d) (fun x=>pV x.1∧DeckOk x.2):=by
 unfold xmake_Deck_Prefix
 refine Tot.bindT (addr_tot d hd) ?_
 rintro⟨a,d⟩ ⟨ha,hd⟩
 simp only at ha hd ⊢
 refine Tot.jnR (fun m:Int=>m=(wid a.fV6:Nat)) (fun j hj => ?_) (fun m hm => ?_)
 ·unfold wid at hj
  refine Tot.ite (fun h=>hj _ (by rw [h];rfl)) (fun h=>hj _ (by rw [h];rfl))
 ·subst hm
  have hw:=wid_le a.fV6
  have hw2:=wid_pos a.fV6
  refine Tot.bindT (next_tot d hd 4 (by omega) (by omega)) ?_
  rintro⟨r,d⟩ ⟨_,_,hd⟩
  simp only at hd ⊢
  refine Tot.jnR (fun m:Int×xmake_Deck=>(0≤m.1∧m.1≤(wid a.fV6:Nat))∧DeckOk m.2) (fun j hj => ?_) (fun m hm => ?_)
  ·refine Tot.ite (fun _ => ?_) (fun _=>Tot.ite (fun _ => ?_) (fun _=>Tot.ite (fun _ => ?_) (fun _=>hj _ ⟨⟨by simp only;omega,Int.le_refl _⟩,hd⟩)))
   ·rw [w64_id (by omega) (by omega)]
    refine Tot.bindT (next_tot d hd _ (by omega) (by omega)) ?_
    rintro⟨b,d⟩ ⟨b0,b1,hd⟩
    simp only at b0 b1 hd
    exact hj _ ⟨⟨b0,by simp only;omega⟩,hd⟩
   ·refine Tot.bindT (next_tot d hd 9 (by omega) (by omega)) ?_
    rintro⟨b,d⟩ ⟨b0,b1,hd⟩
    simp only at b0 b1 hd ⊢
    rw [w64_id (by omega) (by omega)]
    exact hj _ ⟨⟨by simp only;omega,by simp only;omega⟩,hd⟩
   ·refine Tot.bindT (next_tot d hd 5 (by omega) (by omega)) ?_
    rintro⟨b,d⟩ ⟨b0,b1,hd⟩
    simp only at b0 b1 hd ⊢
    have e:b=0∨b=1∨b=2∨b=3∨b=4:=by omega
    rcases e with rfl | rfl | rfl | rfl | rfl<;>exact Tot.bindOf rfl (hj _ ⟨⟨by simp,by simp only;omega⟩,hd⟩)
  ·obtain⟨n,d⟩:=m
   obtain⟨hn,hd⟩:=hm
   simp only at hn hd ⊢
   obtain⟨k,rfl⟩:∃ k:Nat,n=k:=⟨n.toNat,by omega⟩
   refine Tot.bindOf (rmake_eq ha.1 _) ?_
   rw [makeF_ok ha (by omega)]
   exact Tot.some ⟨make_V ha (by omega),hd⟩
-- tables
def zR:aResources:=aResources.mk [] []
def LimF (a:List aRange) (s:List aSpan):aResources×Int:=if 256<a.length∨256<s.length then (zR,3) else (aResources.mk a s,0)
theorem lim_eq (a:List aRange) (s:List aSpan):xref21_limited a s=some (LimF a s):=by
 refine Tot.eq ?_
 unfold xref21_limited LimF
 refine Tot.ite (fun h=>Tot.some ?_) (fun h=>Tot.some ?_)
 ·simp only [Bool.or_eq_true,decide_eq_true_eq] at h
  rw [if_pos (by omega)];rfl
 ·simp only [Bool.or_eq_false_iff,decide_eq_false_iff_not] at h
  rw [if_neg (by omega)]
noncomputable def rangeP (p:aPrefix):aRange:=aRange.mk p.fAddr (LastF p)
theorem rk_of {v:Bool} {a b:aAddr} (h1:a.fV6=v) (h2:b.fV6=v) (h:nA a≤nA b):rk a≤rk b:=by
 unfold rk
 rw [h1,h2]
 split<;>omega
theorem rangeP_A {p:aPrefix} (h:pV p):aV (rangeP p).fFrom∧aV (rangeP p).fTo∧(rangeP p).fFrom.fV6=(rangeP p).fTo.fV6:=⟨h.addr,lastF_V h,rfl⟩
theorem rangeP_le {p:aPrefix} (h:pV p):rk (rangeP p).fFrom≤rk (rangeP p).fTo:=by
 refine rk_of rfl rfl ?_
 have h1:=(cont_iff h).1 (lastF_cont h)
 show nA p.fAddr≤nA (LastF p)
 rw [← h1.2]
 exact cut_le _ _
structure OfOk (ps:List aPrefix) (ss:List aSpan) (a:List aRange) (s:List aSpan):Prop where
 av:AVr a
 va:VL (a.map ivA)
 ia:∀ n,inI n (a.map ivA)↔inI n ((ps.map rangeP).map ivA)
 sv:SVr s
 vs:VL (s.map ivS)
 is:∀ n,inI n (s.map ivS)↔inI n (ss.map ivS)
 la:a.length≤ps.length
 ls:s.length≤ss.length
theorem rof_tot {ps:List aPrefix} {ss:List aSpan} (hR:∀ p∈ps,aR p.fAddr) (hl:ps.length≤1000000) (hl2:ss.length≤1000000) :
  Tot (xref21_Of ps ss) (fun x=>(((∀ p∈ps,pV p)∧SVr ss)→∃ a s,OfOk ps ss a s∧x=LimF a s)∧(¬ ((∀ p∈ps,pV p)∧SVr ss)→x=(zR,1))):=by
 unfold xref21_Of
 refine Tot.bindRng ps.length (fun k (b:List aRange)=>(((k:Nat):Int),b)) (fun k b=>(∀ p∈ps.take k,pV p)∧b=(ps.take k).map rangeP) (fun x=>match x with | .inl _=>¬ ∀ p∈ps,pV p | .inr b=>(∀ p∈ps,pV p)∧b=ps.map rangeP) [] rfl ⟨fun p hp=>by simp at hp,rfl⟩ (fun k b hk hb => ?_) (fun b hb => ?_) (fun x hx => ?_)
 ·obtain⟨hb1,rfl⟩:=hb
  have hw:w64 ((k:Int)+1)=((k+1:Nat):Int):=by rw [w64_id (by omega) (by omega)];rfl
  unfold xref21_Of_L0
  refine Tot.iteT (by simpa using hk) (Tot.bindIdx k rfl hk (Tot.bindOf (rvalid_eq (hR _ (List.getElem_mem hk))) (Tot.ite (fun h=>Tot.stop fun hs => ?_) (fun h => ?_))))
  ·rw [validF_iff.2 (hs _ (List.getElem_mem hk))] at h;cases h
  ·have hv:=validF_iff.1 (show validF ps[k]=true by simpa using h)
   refine Tot.bindOf (rlast_eq hv) (Tot.chk (limB (by simp;omega)) (Tot.step ((ps.take k).map rangeP++[rangeP ps[k]]) (by rw [hw];rfl) ⟨fun p hp => ?_,?_⟩))
   ·rw [take_snoc hk] at hp
    rcases List.mem_append.1 hp with hp | hp
    ·exact hb1 p hp
    ·rw [List.mem_singleton.1 hp];exact hv
   ·rw [take_snoc hk,List.map_append];rfl
 ·unfold xref21_Of_L0
  refine Tot.iteF (by simp) (Tot.last ?_)
  rw [List.take_length] at hb
  exact hb
 cases x with
 | inl _=>exact Tot.some ⟨fun e=>(hx e.1).elim,fun _=>rfl⟩
 | inr b =>
  obtain⟨hp,rfl⟩:=hx
  refine Tot.bindRng ss.length (fun k (_:Unit)=>((k:Nat):Int)) (fun k _=>SVr (ss.take k)) (fun x=>match x with | .inl _=>¬ SVr ss | .inr _=>SVr ss) () rfl (fun p hp=>by simp at hp) (fun k b hk hb => ?_) (fun b hb => ?_) (fun x hx => ?_)
  ·have hw:w64 ((k:Int)+1)=((k+1:Nat):Int):=by rw [w64_id (by omega) (by omega)];rfl
   unfold xref21_Of_L1
   refine Tot.iteT (by simpa using hk) (Tot.bindIdx k rfl hk (Tot.ite (fun h=>Tot.stop fun hs => ?_) (fun h=>Tot.step () (by rw [hw]) fun x hx => ?_)))
   ·obtain⟨h1,h2,h3⟩:=hs _ (List.getElem_mem hk)
    simp only [Bool.or_eq_true,decide_eq_true_eq] at h
    omega
   ·rw [take_snoc hk] at hx
    rcases List.mem_append.1 hx with hx | hx
    ·exact hb x hx
    ·rw [List.mem_singleton.1 hx]
     simp only [Bool.or_eq_false_iff,decide_eq_false_iff_not] at h
     unfold okN
     omega
  ·unfold xref21_Of_L1
   refine Tot.iteF (by simp) (Tot.last ?_)
   rw [List.take_length] at hb
   exact hb
  cases x with
  | inl _=>exact Tot.some ⟨fun e=>(hx e.2).elim,fun _=>rfl⟩
  | inr _ =>
   have hs:SVr ss:=hx
   have hA:AVr (ps.map rangeP):=fun x hx=>by
    obtain⟨p,hp2,rfl⟩:=List.mem_map.1 hx
    exact rangeP_A (hp p hp2)
   have hok:okI ((ps.map rangeP).map ivA):=fun y hy=>by
    obtain⟨x,hx,rfl⟩:=List.mem_map.1 hy
    obtain⟨p,hp2,rfl⟩:=List.mem_map.1 hx
    exact rangeP_le (hp p hp2)
   refine Tot.bindT (ranges_tot hA hok (by simpa using hl)) fun a ha=>Tot.bindT (spans_tot hs hl2) fun s hs2=>Tot.bindOf (lim_eq a s) (Tot.some ⟨fun _=>⟨a,s,⟨ha.1,ha.2.1,ha.2.2.1,hs2.1,hs2.2.1,hs2.2.2.1,by simpa using ha.2.2.2,hs2.2.2.2⟩,rfl⟩,fun e=>(e ⟨hp,hs⟩).elim⟩)
theorem zR_V:VRes zR:=⟨fun x hx=>(by cases hx),vl_nil,fun x hx=>(by cases hx),vl_nil,by decide,by decide⟩
theorem LimF_V {ps:List aPrefix} {ss:List aSpan} {a:List aRange} {s:List aSpan} (h:OfOk ps ss a s):VRes (LimF a s).1:=by
 unfold LimF
 split
 ·exact zR_V
 ·exact⟨h.av,h.va,h.sv,h.vs,by simp only;omega,by simp only;omega⟩
theorem dres_prefixes (n:Nat) (hn:n≤100) (d:xmake_Deck) (hd:DeckOk d):Tot (loop xmake_Deck_Resources_L0 ((n:Int),([]:List aPrefix),d)) (fun x=>(∀ p∈x.1,pV p)∧x.1.length≤n∧DeckOk x.2):=by
 refine Tot.rng n (fun k (b:List aPrefix×xmake_Deck)=>(((n-k:Nat):Int),b.1,b.2)) (fun k b=>(∀ p∈b.1,pV p)∧b.1.length=k∧DeckOk b.2) _ ([],d) rfl ⟨fun x hx=>(by cases hx),rfl,hd⟩ (fun k b hk hb => ?_) (fun b hb => ?_)
 ·obtain⟨hb1,hb2,hb3⟩:=hb
  unfold xmake_Deck_Resources_L0
  refine Tot.iteT (decide_eq_true (by simp only;omega)) (Tot.bindT (prefix_tot _ hb3) ?_)
  rintro⟨p,d1⟩ ⟨hp,hd1⟩
  simp only at hp hd1 ⊢
  refine Tot.chk (limB (by simp;omega)) (Tot.step (b.1++[p],d1) ?_ ⟨fun x hm => ?_,by simp;omega,hd1⟩)
  ·rw [w64_id (by omega) (by omega),show((n-k:Nat):Int)-1=((n-(k+1):Nat):Int) from by omega]
  ·rcases List.mem_append.1 hm with hm | hm
   ·exact hb1 x hm
   ·rw [List.mem_singleton.1 hm];exact hp
 ·obtain⟨hb1,hb2,hb3⟩:=hb
  unfold xmake_Deck_Resources_L0
  exact Tot.iteF (decide_eq_false (by simp only;omega)) (Tot.last ⟨hb1,by simp only;omega,hb3⟩)
theorem dres_spans (n:Nat) (hn:n≤100) (d:xmake_Deck) (hd:DeckOk d):Tot (loop xmake_Deck_Resources_L1 ((n:Int),([]:List aSpan),d)) (fun x=>SVr x.2∧x.2.length≤n∧DeckOk x.1):=by
 refine Tot.rng n (fun k (b:List aSpan×xmake_Deck)=>(((n-k:Nat):Int),b.1,b.2)) (fun k b=>SVr b.1∧b.1.length=k∧DeckOk b.2) _ ([],d) rfl ⟨fun x hx=>(by cases hx),rfl,hd⟩ (fun k b hk hb => ?_) (fun b hb => ?_)
 ·obtain⟨hb1,hb2,hb3⟩:=hb
  unfold xmake_Deck_Resources_L1
  refine Tot.iteT (decide_eq_true (by simp only;omega)) (Tot.bindT (next_tot _ hb3 20 (by omega) (by omega)) ?_)
  rintro⟨a,d1⟩ ⟨a0,a1,hd1⟩
  refine Tot.bindT (next_tot _ hd1 5 (by omega) (by omega)) ?_
  rintro⟨i,d2⟩ ⟨i0,i1,hd2⟩
  simp only at a0 a1 i0 i1 hd2 ⊢
  obtain⟨m,rfl⟩:∃ m:Nat,i=m:=⟨i.toNat,by omega⟩
  have hm:m<([(0:Int),1,5,4294967286,a]:List Int).length:=by simp;omega
  have hmem:=List.getElem_mem hm
  have hx:0≤([(0:Int),1,5,4294967286,a]:List Int)[m]∧([(0:Int),1,5,4294967286,a]:List Int)[m]≤4294967286:=by
   generalize ([(0:Int),1,5,4294967286,a]:List Int)[m]=y at hmem ⊢
   simp only [List.mem_cons,List.not_mem_nil,or_false] at hmem
   omega
  refine Tot.bindIdx m rfl hm ?_
  generalize ([(0:Int),1,5,4294967286,a]:List Int)[m]=y at hx ⊢
  refine Tot.bindT (next_tot _ hd2 10 (by omega) (by omega)) ?_
  rintro⟨c,d3⟩ ⟨c0,c1,hd3⟩
  simp only at c0 c1 hd3 ⊢
  rw [w64_id (n:=y+c) (by omega) (by omega)]
  refine Tot.chk (limB (by simp;omega)) (Tot.step (b.1++[aSpan.mk y (y+c)],d3) ?_ ⟨fun x hm => ?_,by simp;omega,hd3⟩)
  ·rw [w64_id (by omega) (by omega),show((n-k:Nat):Int)-1=((n-(k+1):Nat):Int) from by omega]
  ·rcases List.mem_append.1 hm with hm | hm
   ·exact hb1 x hm
   ·rw [List.mem_singleton.1 hm]
    unfold okN
    simp only
    omega
 ·obtain⟨hb1,hb2,hb3⟩:=hb
  unfold xmake_Deck_Resources_L1
  exact Tot.iteF (decide_eq_false (by simp only;omega)) (Tot.last ⟨hb1,by simp only;omega,hb3⟩)
theorem dres_tot (d:xmake_Deck) (hd:DeckOk d):Tot (xmake_Deck_Resources d) (fun x=>(VRes x.1∧x.1.fAddrs.length≤5∧x.1.fASNs.length≤3)∧DeckOk x.2):=by
 unfold xmake_Deck_Resources
 refine Tot.bindT (next_tot _ hd 6 (by omega) (by omega)) ?_
 rintro⟨n,d1⟩ ⟨n0,n1,hd1⟩
 simp only at n0 n1 hd1 ⊢
 obtain⟨k,rfl⟩:∃ k:Nat,n=k:=⟨n.toNat,by omega⟩
 refine Tot.bindT (dres_prefixes k (by omega) d1 hd1) ?_
 rintro⟨ps,d2⟩ ⟨hp,hpl,hd2⟩
 simp only at hp hpl hd2 ⊢
 refine Tot.bindT (next_tot _ hd2 4 (by omega) (by omega)) ?_
 rintro⟨m,d3⟩ ⟨m0,m1,hd3⟩
 simp only at m0 m1 hd3 ⊢
 obtain⟨q,rfl⟩:∃ q:Nat,m=q:=⟨m.toNat,by omega⟩
 refine Tot.bindT (dres_spans q (by omega) d3 hd3) ?_
 rintro⟨d4,ss⟩ ⟨hs,hsl,hd4⟩
 simp only at hs hsl hd4 ⊢
 refine Tot.bindT (rof_tot (fun p h=>(hp p h).addr.1) (by omega) (by omega)) fun x hx=>Tot.some ?_
 obtain⟨a,s,ok,rfl⟩:=hx.1 ⟨hp,hs⟩
 have la:=ok.la
 have ls:=ok.ls
 refine⟨⟨LimF_V ok,?_,?_⟩,hd4⟩
 ·simp only
  unfold LimF
  rw [if_neg (by omega)]
  simp only
  omega
 ·simp only
  unfold LimF
  rw [if_neg (by omega)]
  simp only
  omega
end Go.Proofs.YtgfoabcickjphaaGreatDoor
