/- PlanCarries. -/
import Derived.Test.YtkcpjnjneehecaaPureZC
namespace Go.Proofs.Ytkcpjnjneehecaa
open Go Go.Vc
def stA (l:List Int) (gone:List Bool):List Bool:=l.foldl (fun g i=>g.set i.toNat true) gone
theorem stA_get:∀ (l:List Int) (gone:List Bool),(∀ x∈l,0≤x∧x<gone.length)→∀ i:Nat,(stA l gone)[i]? = some true↔((i:Int)∈l∨gone[i]? = some true)
 | [],gone,_,i=>by simp [stA]
 | x :: l,gone,h,i=>by
  have hx:=h x (List.mem_cons_self ..)
  have:=stA_get l (gone.set x.toNat true) (fun y hy=>by rw [List.length_set];exact h y (List.mem_cons_of_mem _ hy)) i
  show(stA l (gone.set x.toNat true))[i]? = some true↔_
  rw [this,List.mem_cons]
  by_cases e:x.toNat=i
  ·subst e
   rw [List.getElem?_set_self (by omega)]
   exact⟨fun _ => .inl (.inl (by omega)),fun _ => .inr rfl⟩
  ·rw [List.getElem?_set_ne e]
   constructor
   ·exact fun g=>g.elim (fun g => .inl (.inr g)) .inr
   ·rintro((g | g) | g)
    ·exact absurd g (by omega)
    ·exact .inl g
    ·exact .inr g
theorem goF_pre (g:aFabric) (loads:List aLoad):∀ (o:List Int) (gone:List Bool),∃ m,m≤o.length∧goF g loads o gone=stA (o.take m) gone∧(ovF g loads (goF g loads o gone)=false∨m=o.length)
 | [],gone=>⟨0,Nat.le_refl _,rfl,.inr rfl⟩
 | i :: o,gone=>by
  cases e:ovF g loads gone with
  | false=>exact⟨0,Nat.zero_le _,goF_stop e _,.inl (by rw [goF_stop e];exact e)⟩
  | true =>
   have eq:goF g loads (i :: o) gone=goF g loads o (gone.set i.toNat true):=by rw [goF,if_pos e]
   obtain⟨m,hm,h1,h2⟩:=goF_pre g loads o (gone.set i.toNat true)
   refine⟨m+1,by rw [List.length_cons];omega,by rw [eq,h1];rfl,h2.elim (fun h => .inl (by rw [eq];exact h)) (fun h => .inr (by rw [h];rfl))⟩
theorem lsK_mem (G:List Bool):∀ (k:Nat) (x:Int),x∈lsK G k↔∃ i:Nat,i<k∧x=i∧G[i]? = some true
 | 0,x=>by simp [lsK]
 | k+1,x=>by
  have:=lsK_mem G k x
  unfold lsK
  split
  ·rename_i h
   rw [List.mem_append,this,List.mem_singleton]
   constructor
   ·rintro(⟨i,hi,e,g⟩ | e)
    ·exact⟨i,by omega,e,g⟩
    ·exact⟨k,by omega,e,h⟩
   ·rintro⟨i,hi,e,g⟩
    by_cases ei:i=k
    ·subst ei;exact .inr e
    ·exact .inl ⟨i,by omega,e,g⟩
  ·rename_i h
   rw [this]
   constructor
   ·rintro⟨i,hi,e,g⟩
    exact⟨i,by omega,e,g⟩
   ·rintro⟨i,hi,e,g⟩
    refine⟨i,?_,e,g⟩
    by_cases ei:i=k
    ·subst ei;exact absurd g h
    ·omega
noncomputable def cg (g:aFabric) (loads:List aLoad) (G:List Bool) (j:Int) (i:Nat):Int:=if G.getD i false=true then 0 else ct (wy g loads i).1 (rt loads i) j (wy g loads i).1.length
noncomputable def sl (g:aFabric) (loads:List aLoad) (G:List Bool) (j:Int):List Int→Int
 | []=>0
 | x :: l=>cg g loads G j x.toNat+sl g loads G j l
theorem sl_app (g:aFabric) (loads:List aLoad) (G:List Bool) (j:Int):∀ l m:List Int,sl g loads G j (l++m)=sl g loads G j l+sl g loads G j m
 | [],m=>by simp [sl]
 | x :: l,m=>by show _+sl g loads G j (l++m)=_;rw [sl_app g loads G j l m];simp [sl];omega
theorem sl_perm {g:aFabric} {loads:List aLoad} {G:List Bool} {j:Int} {l m:List Int} (h:l.Perm m):sl g loads G j l=sl g loads G j m:=by
 induction h with
 | nil=>rfl
 | cons x _ ih=>simp [sl,ih]
 | swap x y l=>simp [sl];omega
 | trans _ _ h1 h2=>exact h1.trans h2
theorem sl_range (g:aFabric) (loads:List aLoad) (G:List Bool) (j:Int):∀ n,sl g loads G j ((List.range n).map fun i:Nat=>(i:Int))=sm g loads G j n
 | 0=>rfl
 | n+1=>by
  rw [List.range_succ,List.map_append,sl_app,sl_range g loads G j n]
  show _+(cg g loads G j (n:Int).toNat+0)=_
  rw [Int.toNat_natCast,Int.add_zero];rfl
theorem ord_perm {o:List Int} {n:Nat} (g:Ord' o n):o.Perm ((List.range n).map fun i:Nat=>(i:Int)):=by
 have hm:∀ x,x∈srt o↔x∈o:=fun x=>(srt_perm o).mem_iff
 have hnd:(srt o).Nodup:=(srt_perm o).nodup_iff.2 g.nd
 have hst:(srt o).Pairwise (· < ·):=by
  have h1:=srt_sorted o
  refine(List.Pairwise.and h1 hnd).imp fun {a b} h => ?_
  have:=h.1;have:=h.2;omega
 have hrg:((List.range n).map fun i:Nat=>(i:Int)).Pairwise (· < ·):=by
  refine List.pairwise_map.2 (List.pairwise_lt_range.imp fun h => ?_)
  omega
 have:srt o=(List.range n).map fun i:Nat=>(i:Int):=by
  refine sorted_unique (fun x y h=>by omega) hst hrg fun x => ?_
  rw [hm,List.mem_map]
  constructor
  ·intro hx
   have:=g.r x hx
   exact⟨x.toNat,List.mem_range.2 (by omega),by omega⟩
  ·rintro⟨i,hi,rfl⟩
   exact in_all g i (List.mem_range.1 hi)
 rw [← this];exact(srt_perm o).symm
theorem sl_bd {g:aFabric} (hg:FV g) {loads:List aLoad} (hll:loads.length≤16) (hld:∀ k,k<loads.length→∀ l,loads[k]? = some l→LdV g l) {o:List Int} (_ho:Ord' o loads.length) (G:List Bool) (j:Int):∀ l:List Int,(∀ x∈l,0≤x∧x<loads.length)→0≤sl g loads G j l∧sl g loads G j l≤8589934592*(l.length:Int)
 | [],_=>by simp [sl]
 | x :: l,h=>by
  have:=sl_bd hg hll hld _ho G j l fun y hy=>h y (List.mem_cons_of_mem _ hy)
  have hx:=h x (List.mem_cons_self ..)
  have hi:x.toNat<loads.length:=by omega
  have hr:=rt_ok hg hll hld hi
  have hw:=(wy_eq hg hll hld hi).2.2.l
  have h1:=ct_bd (wy g loads x.toNat).1 (r:=rt loads x.toNat) ⟨by omega,by omega⟩ j (wy g loads x.toNat).1.length
  have h2:=ct_pos (wy g loads x.toNat).1 hr.2.1 j (wy g loads x.toNat).1.length
  unfold sl cg
  rw [List.length_cons]
  split<;>omega
theorem goF_ov {g:aFabric} (hg:FV g) {loads:List aLoad} (_hll:loads.length≤16) (_hld:∀ k,k<loads.length→∀ l,loads[k]? = some l→LdV g l) {o:List Int} (ho:Ord' o loads.length):ovF g loads (goF g loads o (gone0 g loads))=false:=by
 obtain⟨m,hm,h1,h2⟩:=goF_pre g loads o (gone0 g loads)
 rcases h2 with h2 | h2
 ·exact h2
 ·subst h2
  rw [List.take_length] at h1
  have hall:∀ i,i<loads.length→(goF g loads o (gone0 g loads))[i]? = some true:=fun i hi=>by
   rw [h1]
   exact(stA_get o _ (fun x hx=>by rw [gone0_len];exact ho.r x hx) i).2 (.inl (in_all ho i hi))
  have hz:∀ j n,n≤loads.length→sm g loads (goF g loads o (gone0 g loads)) j n=0:=by
   intro j n
   induction n with
   | zero=>intro _;rfl
   | succ n ih =>
    intro hn
    show sm g loads _ j n+_=0
    rw [ih (by omega),List.getD_eq_getElem?_getD,hall n (by omega)];rfl
  unfold ovF
  refine decide_eq_false fun h=>h fun k hk l hl => ?_
  rw [hz _ _ (Nat.le_refl _)]
  have:=(hg.lk l (List.mem_of_getElem? hl)).c
  omega
theorem gone_no {g:aFabric} (_hg:FV g) {loads:List aLoad} (_hll:loads.length≤16) (_hld:∀ k,k<loads.length→∀ l,loads[k]? = some l→LdV g l) {o:List Int} (ho:Ord' o loads.length) {i:Nat} (hi:i<loads.length) (h:(wy g loads i).2=false):(goF g loads o (gone0 g loads))[i]? = some true:=by
 obtain⟨m,hm,h1,_⟩:=goF_pre g loads o (gone0 g loads)
 rw [h1]
 exact(stA_get _ _ (fun x hx=>by rw [gone0_len];exact ho.r x (List.mem_of_mem_take hx)) i).2 (.inr (by rw [gone0_get g loads hi,h];rfl))
theorem gone_ord {g:aFabric} (_hg:FV g) {loads:List aLoad} (_hll:loads.length≤16) (_hld:∀ k,k<loads.length→∀ l,loads[k]? = some l→LdV g l) {o:List Int} (ho:Ord' o loads.length) {k q:Nat} (hk:k<o.length) (hq:q<k) (h:(wy g loads o[k].toNat).2=true) (hgk:(goF g loads o (gone0 g loads))[o[k].toNat]? = some true):(goF g loads o (gone0 g loads))[(o[q]'(by omega)).toNat]? = some true:=by
 obtain⟨m,hm,h1,_⟩:=goF_pre g loads o (gone0 g loads)
 have hr:∀ x∈o.take m,0≤x∧x<((gone0 g loads).length:Int):=fun x hx=>by rw [gone0_len];exact ho.r x (List.mem_of_mem_take hx)
 have hk':=ho.r _ (List.getElem_mem hk)
 have hq':=ho.r _ (List.getElem_mem (by omega:q<o.length))
 rw [h1] at hgk ⊢
 have hi:o[k].toNat<loads.length:=by omega
 have:=(stA_get _ _ hr _).1 hgk
 rcases this with this | this
 ·rw [Int.toNat_of_nonneg hk'.1] at this
  obtain⟨p,hp,e⟩:=List.mem_iff_getElem.1 this
  rw [List.length_take] at hp
  rw [List.getElem_take] at e
  have hpk:p=k:=by
   refine Classical.byContradiction fun hne => ?_
   have hnd:=List.pairwise_iff_getElem.1 ho.nd
   rcases Nat.lt_or_gt_of_ne hne with hlt | hlt
   ·exact hnd p k (by omega) hk hlt e
   ·exact hnd k p hk (by omega) hlt e.symm
  subst hpk
  refine(stA_get _ _ hr _).2 (.inl ?_)
  rw [Int.toNat_of_nonneg hq'.1]
  exact List.mem_iff_getElem.2 ⟨q,by rw [List.length_take];omega,by rw [List.getElem_take]⟩
 ·rw [gone0_get g loads hi,h] at this
  cases this
theorem carry_one {r:aFabric×List aLoad×List Int×exchangepointmill_Deck} (hr:Scene r) {x:List aItem} (hx:x∈flF r.1) (p:List aShed×Int) {k:Nat} (hk:k<p.1.length) (ep:p.1[k]=⟨x,shF r.1 r.2.1 r.2.2.1 x⟩) :
  Tot (xlaw43_PlanCarries_L0 r p (k:Int)) (fun y=>y = .inr (w64 ((k:Int)+1))):=by
 have hv:=flF_valid hr.vd hx
 have hI:∀ y∈x,ItV r.1 y:=fun y hy=>by
  obtain⟨i,hi,e⟩:=List.mem_iff_getElem.1 hy
  exact(hv.i i hi y (by rw [List.getElem?_eq_getElem hi,e])).1
 have hxl:=hv.il
 have hg:=woF_ok hr.f x
 have hs:=hr.f.s
 have hl:=hr.f.l
 have hll:r.2.1.length≤16:=by have:=hr.ll;omega
 have hld:∀ k,k<r.2.1.length→∀ l,r.2.1[k]? = some l→LdV (woF r.1 x) l:=fun k hk l e=>ld_wo (hr.l l (List.mem_of_getElem? e))
 have ho:=hr.o
 have hol:=ho.l
 have hov:=goF_ov hg hll hld ho
 have hno:=fun {i} => @gone_no _ hg _ hll hld _ ho i
 have hord:=fun {k q} => @gone_ord _ hg _ hll hld _ ho k q
 have hGl:(goF (woF r.1 x) r.2.1 r.2.2.1 (gone0 (woF r.1 x) r.2.1)).length=r.2.1.length:=by rw [goF_len,gone0_len]
 have hsb:=@sl_bd _ hg _ hll hld _ ho
 have hsh:shF r.1 r.2.1 r.2.2.1 x=lsK (goF (woF r.1 x) r.2.1 r.2.2.1 (gone0 (woF r.1 x) r.2.1)) r.2.1.length:=rfl
 have hgf:(woF r.1 x).fLinks=r.1.fLinks:=rfl
 generalize hG:goF (woF r.1 x) r.2.1 r.2.2.1 (gone0 (woF r.1 x) r.2.1)=G at *
 generalize hgg:woF r.1 x=g at *
 have hlsl:=lsK_le G r.2.1.length
 unfold xlaw43_PlanCarries_L0
 refine Tot.iteT (decide_eq_true (by omega)) (Tot.bindIdx k rfl hk ?_)
 rw [ep]
 dsimp only
 rw [hsh]
 refine Tot.chk (mk_ok (by omega) (by omega)) (Tot.bindT (P':=fun y=>y = .inr G) ?_ fun y hy => ?_)
 ·
  refine Tot.rng (lsK G r.2.1.length).length (fun k (b:List Bool)=>(((k:Nat):Int),b)) (fun k b=>b.length=r.2.1.length∧∀ i:Nat,b[i]? = some true↔(i:Int)∈(lsK G r.2.1.length).take k) _ _ rfl ⟨by simp,fun i => ?_⟩ (fun k b hk hb => ?_) (fun b hb => ?_)
  ·simp [List.getElem?_replicate]
  ·have hm:=(lsK_mem G _ _).1 (List.getElem_mem hk)
   obtain⟨i,hi,ei,gi⟩:=hm
   have hib:i<b.length:=by rw [hb.1];exact hi
   unfold xlaw43_PlanCarries_L1
   refine Tot.iteT (decide_eq_true (by simp only;omega)) (Tot.bindIdx k rfl hk ?_)
   rw [ei]
   refine Tot.iteF (by simp;omega) (Tot.bindIdx i rfl hib (Tot.bindIdx i rfl hib (Tot.step _ (by rw [wN (by omega)]) ⟨by rw [List.length_set];exact hb.1,fun i' => ?_⟩)))
   rw [take_snoc hk,List.mem_append,List.mem_singleton,ei,Int.toNat_natCast]
   by_cases e:i=i'
   ·subst e;rw [List.getElem?_set_self hib];exact⟨fun _ => .inr rfl,fun _=>rfl⟩
   ·rw [List.getElem?_set_ne e,hb.2 i']
    exact⟨.inl,fun h=>h.elim id fun h=>absurd h (by omega)⟩
  ·unfold xlaw43_PlanCarries_L1
   refine Tot.iteF (decide_eq_false (by simp only;omega)) (Tot.last ?_)
   congr 1
   refine List.ext_getElem (by rw [hGl];exact hb.1) fun i h1 h2 => ?_
   have h3:=hb.2 i
   rw [List.take_length,lsK_mem,List.getElem?_eq_getElem h1] at h3
   have hir:i<r.2.1.length:=by rw [← hGl];exact h2
   cases e:G[i] with
   | true =>
    have:=h3.2 ⟨i,hir,rfl,by rw [List.getElem?_eq_getElem h2,e]⟩
    exact Option.some.inj this
   | false =>
    cases e':b[i] with
    | false=>rfl
    | true =>
     obtain⟨i',_,ei,gi⟩:=h3.1 (by rw [e'])
     have:i'=i:=by omega
     subst this
     rw [List.getElem?_eq_getElem h2,e] at gi;cases gi
 subst hy
 refine Tot.bindT (rvalid42_tot (by omega) (by omega) (by omega)) fun b hb => ?_
 rw [hb.2 hv]
 refine Tot.iteF rfl (Tot.bindOf (by rw [rwithout_eq hr.f (by omega) hI,hgg]) (Tot.chk (mk_ok (by omega) (by omega)) (Tot.bindT (P':=fun y=>∃ s:List Int,y = .inr s∧s.length=g.fLinks.length∧∀ j:Int,0≤j→j<g.fLinks.length→gt s j=sm g r.2.1 G j r.2.1.length) ?_ fun y hy => ?_)))
 ·refine Tot.rng r.2.2.1.length (fun k (b:Bool×List Int)=>(b.1,((k:Nat):Int),b.2)) (fun k b=>(b.1=true↔∃ q,∃ h:q<r.2.2.1.length,q<k∧G[r.2.2.1[q].toNat]? = some false)∧b.2.length=g.fLinks.length∧∀ j:Int,0≤j→j<g.fLinks.length→gt b.2 j=sl g r.2.1 G j (r.2.2.1.take k)) _ (false,_) rfl ⟨⟨(fun h=>by cases h),fun⟨q,_,h,_⟩=>absurd h (Nat.not_lt_zero _)⟩,by simp [hgf],fun j h0 h1 => ?_⟩ (fun k b hk hb => ?_) (fun b hb => ?_)
  ·rw [hgf] at h1
   have hj:j.toNat<(List.replicate (r.1.fLinks.length:Int).toNat (0:Int)).length:=by simp;omega
   have:=gt_get hj
   rw [Int.toNat_of_nonneg h0] at this
   rw [this];simp [sl]
  ·obtain⟨hb1,hb2,hb3⟩:=hb
   have hor:=ho.r _ (List.getElem_mem hk)
   obtain⟨i,ei⟩:∃ i:Nat,r.2.2.1[k]=(i:Int):=⟨r.2.2.1[k].toNat,by omega⟩
   have hi:i<r.2.1.length:=by omega
   have hiG:i<G.length:=by rw [hGl];exact hi
   have hio:r.2.2.1[k].toNat=i:=by omega
   obtain⟨_,hw,hok⟩:=wy_eq hg hll hld hi
   have hrt:=rt_ok hg hll hld hi
   have hck:=hord (q:=k) hk
   have hslt:∀ j,sl g r.2.1 G j (r.2.2.1.take (k+1))=sl g r.2.1 G j (r.2.2.1.take k)+cg g r.2.1 G j i:=fun j=>by
    rw [take_snoc hk,sl_app]
    show _+(cg g r.2.1 G j r.2.2.1[k].toNat+0)=_
    rw [hio,Int.add_zero]
   unfold xlaw43_PlanCarries_L2
   refine Tot.iteT (decide_eq_true (by simp only;omega)) (Tot.bindIdx k rfl hk ?_)
   rw [ei]
   refine Tot.bindIdx i rfl hi (Tot.bindIdx i rfl hi (Tot.bindOf hw (Tot.jnR (fun m:Bool=>m=false) (fun j hj=>Tot.ite (fun h1=>Tot.bindIdx i rfl hiG (Tot.bindIdx i rfl hiG (Tot.ite (fun h2 => ?_) (fun h2=>Tot.iteF (by rw [h1];rfl) (hj _ rfl))))) (fun h1=>Tot.iteT (by rw [h1];rfl) (Tot.bindIdx i rfl hiG (Tot.bindIdx i rfl hiG (hj _ ?_))))) (fun m hm=>Tot.iteF hm (Tot.jnR (fun m:Bool=>m=true↔(b.1=true∨G[i]=false)) (fun j hj=>Tot.ite (fun h1=>hj _ ⟨fun _ => .inl h1,fun _=>rfl⟩) (fun h1=>Tot.bindIdx i rfl hiG (Tot.bindIdx i rfl hiG (hj _ ?_)))) (fun m hm=>Tot.bindT (P':=fun s=>s.length=g.fLinks.length∧∀ j:Int,0≤j→j<g.fLinks.length→gt s j=gt b.2 j+cg g r.2.1 G j i) ?_ fun s hs=>Tot.step (m,s) (by rw [wN (by omega)]) ⟨?_,hs.1,fun j h0 h1 => ?_⟩))))))
   ·exfalso
    have h2:G[i]=true∧b.1=true:=by simpa using h2
    obtain⟨q,hq,hqk,hGq⟩:=hb1.1 h2.2
    have:=hord (k:=k) (q:=q) hk hqk (by rw [hio];exact h1) (by rw [hio,List.getElem?_eq_getElem hiG,h2.1])
    rw [this] at hGq;cases hGq
   ·have:=hno hi h1
    rw [List.getElem?_eq_getElem hiG] at this
    rw [Option.some.inj this];rfl
   ·have h1:b.1=false:=h1
    rw [h1];simp
   ·have hcg:∀ j,cg g r.2.1 G j i=if G[i]=true then 0 else ct (wy g r.2.1 i).1 (rt r.2.1 i) j (wy g r.2.1 i).1.length:=fun j=>by
     unfold cg;rw [List.getD_eq_getElem?_getD,List.getElem?_eq_getElem hiG];rfl
    cases eG:G[i] with
    | true =>
     refine Tot.rng (wy g r.2.1 i).1.length (fun k (s:List Int)=>(((k:Nat):Int),s)) (fun _ s=>s=b.2) _ b.2 rfl rfl (fun q s hq hs => ?_) (fun s hs => ?_)
     ·subst hs
      unfold xlaw43_PlanCarries_L3
      refine Tot.iteT (decide_eq_true (by simp only;omega)) (Tot.bindIdx q rfl hq (Tot.bindIdx i rfl hiG (Tot.bindIdx i rfl hiG (Tot.jnR (fun m:List Int=>m=b.2) (fun j hj=>Tot.iteF (by rw [eG];rfl) (hj _ rfl)) (fun m hm=>Tot.step m (by have:=hok.l;rw [wN (by omega)]) hm)))))
     ·subst hs
      unfold xlaw43_PlanCarries_L3
      refine Tot.iteF (decide_eq_false (by simp only;omega)) (Tot.last ⟨hb2,fun j h0 h1 => ?_⟩)
      rw [hcg,eG];simp
    | false =>
     refine(addLoop (wy g r.2.1 i).1 (rt r.2.1 i) b.2 g.fLinks.length hok.k hok.l ⟨by omega,by omega⟩ hb2 (fun j h0 h1 => ?_) (fun q hq s hs => ?_) (fun s => ?_)).mono fun s hs=>⟨hs.1,fun j h0 h1=>by rw [hs.2 j h0 h1,hcg,eG];rfl⟩
     ·have:=hsb G j (r.2.2.1.take k) fun y hy=>ho.r y (List.mem_of_mem_take hy)
      rw [List.length_take] at this
      rw [hb3 j h0 h1];omega
     ·unfold xlaw43_PlanCarries_L3
      have hrr:=hok.k _ (List.getElem_mem hq)
      have hrl:0≤(wy g r.2.1 i).1[q]∧(wy g r.2.1 i).1[q]<s.length:=by rw [hs];exact hrr
      refine Tot.iteT (decide_eq_true (by simp only;omega)) (Tot.bindIdx q rfl hq (Tot.bindIdx i rfl hiG (Tot.bindIdx i rfl hiG (Tot.jnR (fun m:List Int=>m=s.set (wy g r.2.1 i).1[q].toNat (w64 (gt s (wy g r.2.1 i).1[q]+rt r.2.1 i))) (fun j hj=>Tot.iteT (by rw [eG];rfl) (bindGt hrl (bindGt hrl (Tot.bindIdx i rfl hi (bindGt hrl (bindGt hrl (hj _ (by rw [hrt.1]))))))))  (fun m hm=>Tot.some (by rw [hm]))))))
     ·unfold xlaw43_PlanCarries_L3;rw [if_neg (by simp)]
   ·rw [hm,hb1]
    constructor
    ·rintro(⟨q,h1,h2,h3⟩ | h)
     ·exact⟨q,h1,by omega,h3⟩
     ·exact⟨k,hk,by omega,by rw [hio,List.getElem?_eq_getElem hiG,h]⟩
    ·rintro⟨q,h1,h2,h3⟩
     by_cases e:q=k
     ·subst e
      rw [hio,List.getElem?_eq_getElem hiG] at h3
      exact .inr (Option.some.inj h3)
     ·exact .inl ⟨q,h1,by omega,h3⟩
   ·rw [hs.2 j h0 h1,hb3 j h0 h1,hslt]
  ·unfold xlaw43_PlanCarries_L2
   refine Tot.iteF (decide_eq_false (by simp only;omega)) (Tot.last ⟨_,rfl,hb.2.1,fun j h0 h1 => ?_⟩)
   rw [hb.2.2 j h0 h1,List.take_length,sl_perm (ord_perm ho),sl_range]
 ·obtain⟨s,rfl,hs1,hs2⟩:=hy
  have hov':∀ k,k<g.fLinks.length→∀ l,g.fLinks[k]? = some l→¬ 1000*l.fCapacity<sm g r.2.1 G (k:Int) r.2.1.length:=by
   unfold ovF at hov
   exact Classical.byContradiction fun h=>by rw [decide_eq_true h] at hov;cases hov
  refine Tot.bindT (okLoop (by rw [hs1,hgf];omega:s.length≤_) (fun q hq => ?_) ?_) fun y hy=>by subst hy;exact Tot.some rfl
  ·have hq':q<g.fLinks.length:=by rw [← hs1];exact hq
   have hq2:q<r.1.fLinks.length:=by rw [← hgf];exact hq'
   have hc:=(hr.f.lk _ (List.getElem_mem hq2)).c
   have hsk:s[q]=sm g r.2.1 G (q:Int) r.2.1.length:=by rw [← hs2 (q:Int) (by omega) (by omega),gt_get hq]
   have he:g.fLinks[q]=r.1.fLinks[q]:=by simp [hgf]
   have:=hov' q hq' _ (List.getElem?_eq_getElem hq')
   rw [he] at this
   unfold xlaw43_PlanCarries_L4
   refine Tot.iteT (decide_eq_true (by omega)) (Tot.bindIdx q rfl hq (Tot.bindIdx q rfl hq (Tot.bindIdx q rfl hq2 (Tot.iteF ?_ (Tot.some rfl)))))
   rw [hsk,w64_id (by omega) (by omega)]
   exact decide_eq_false this
  ·unfold xlaw43_PlanCarries_L4;rw [if_neg (by simp)]
theorem carries_law (a0:List Int) (h0:(∀ y∈a0,I64 y)∧a0.length≤maxLen):xlaw43_PlanCarries a0=some true:=by
 refine Tot.eq ?_
 unfold xlaw43_PlanCarries
 refine Tot.bindOf (show exchangepointmill_New a0=some ⟨a0,0⟩ from rfl) (Tot.bindT (scene_tot _ (new_ok a0 h0.2)) fun r hr => ?_)
 have hs:=hr.f.s
 have hl:=hr.f.l
 have hll:=hr.ll
 have hol:=hr.o.l
 have hn:=hr.n
 obtain⟨p,e1,_,h⟩:=build_ex (f:=r.1) (loads:=r.2.1) (o:=r.2.2.1) (by omega) (by omega) (by omega)
 have hp:p=(bdF r.1 r.2.1 r.2.2.1,0):=by
  rcases h with ⟨h,_⟩ | ⟨_,h,_⟩ | ⟨_,_,h⟩
  ·exact absurd ⟨hr.vd,hr.o⟩ h
  ·omega
  ·exact h
 subst hp
 have hok:=bdF_ok r.1 (by omega:r.2.1.length≤16) r.2.2.1
 refine Tot.bindOf e1 (Tot.jnR (fun m:Bool=>m=false) (fun j hj=>Tot.iteF rfl (Tot.bindOf (x:=0) ?_ (hj _ rfl))) (fun m hm=>Tot.iteF hm (Tot.bindT (okLoop (by have:=hok.1;omega:(bdF r.1 r.2.1 r.2.2.1).length≤_) (fun k hk => ?_) ?_) fun y hy=>by subst hy;exact Tot.bindOf awake_eq (Tot.some rfl))))
 ·unfold plan_Check
  exact Tot.eq (Tot.bindOf e1 (Tot.iteF rfl (Tot.bindOf (eqf_self hok) (Tot.iteF rfl (Tot.bindOf (eqf2_self hok) (Tot.iteF rfl (Tot.some rfl)))))))
 ·have hk':k<(flF r.1).length:=by unfold bdF at hk;rw [List.length_map] at hk;exact hk
  exact carry_one hr (List.getElem_mem hk') _ hk (by simp [bdF])
 ·unfold xlaw43_PlanCarries_L0;rw [if_neg (by simp)]
end Go.Proofs.Ytkcpjnjneehecaa
