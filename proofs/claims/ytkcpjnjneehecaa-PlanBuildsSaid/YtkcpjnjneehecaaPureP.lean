/- PlanBuilds. -/
import Derived.Test.YtkcpjnjneehecaaPureZC
namespace Go.Proofs.Ytkcpjnjneehecaa
open Go Go.Vc
def hIt (x:aItem):Prop:=True∧I64 x.fIndex∧True
def hSh (x:aShed):Prop:=((∀ y∈x.fItems,hIt y)∧x.fItems.length≤maxLen∧x.fItems.length*16≤reachBytes)∧((∀ y∈x.fLoads,I64 y)∧x.fLoads.length≤maxLen∧x.fLoads.length*8≤reachBytes)∧True
def Sz (l:List aShed):Prop:=l.length≤100000∧∀ x∈l,x.fItems.length≤1152921504606846976∧x.fLoads.length*8≤ROOM
theorem ROOM_eq:ROOM=140737488355328:=rfl
theorem ints_big (l:List Int) (hl:l.length≤4611686018427387904):xref23_SameInts l l=some true:=by
 refine Tot.eq ?_
 unfold xref23_SameInts
 refine Tot.iteF (by simp) (Tot.bindRng l.length (fun k (_:Unit)=>((k:Nat):Int)) (fun _ _=>True) (fun x=>x = .inr ()) () rfl trivial (fun k b hk _ => ?_) (fun b _ => ?_) fun x hx=>by subst hx;exact Tot.some rfl)
 ·unfold xref23_SameInts_L0
  exact Tot.iteT (decide_eq_true (by omega)) (Tot.bindIdx k rfl hk (Tot.bindIdx k rfl hk (Tot.iteF (by simp) (Tot.step () (cast_succ_w hk hl) trivial))))
 ·unfold xref23_SameInts_L0
  exact Tot.iteF (decide_eq_false (by omega)) (Tot.last rfl)
theorem it_ne (x y:aItem):(!((x.fSwitch==y.fSwitch)&&((x.fIndex==y.fIndex)&&true)))=true↔¬ x=y:=by
 rw [← it_eq x y,Bool.not_eq_true',Bool.not_eq_true]
theorem ne_len {α:Type} {l m:List α} (h:((l.length:Int) != (m.length:Int))=true):l≠m:=fun e=>by subst e;simp at h
theorem eq_len {α:Type} {l m:List α} (h:((l.length:Int) != (m.length:Int))=false):l.length=m.length:=by
 have:(l.length:Int)=m.length:=by simpa using h
 omega
theorem all_eq {α:Type} {l m:List α} (hl:l.length=m.length):(∀ k,k<m.length→l[k]? = m[k]?)↔l=m:=by
 constructor
 ·intro h
  refine List.ext_getElem? fun i => ?_
  by_cases hi:i<m.length
  ·exact h i hi
  ·rw [List.getElem?_eq_none (by omega),List.getElem?_eq_none (by omega)]
 ·intro h k _;rw [h]
theorem sItems_tot (l m:List aItem) (hm:m.length≤1000000):Tot (xref42_SameItems l m) (fun b=>b=true↔l=m):=by
 unfold xref42_SameItems
 refine Tot.ite (fun h=>Tot.some ⟨(fun g=>by cases g),fun g=>absurd g (ne_len h)⟩) (fun h => ?_)
 have hl:=eq_len h
 refine Tot.bindT (allLoop (fun k=>l[k]? = m[k]?) (by omega:m.length≤_) (fun k hk => ?_) ?_) fun x hx => ?_
 ·have hk':k<l.length:=by omega
  unfold xref42_SameItems_L0
  refine Tot.iteT (decide_eq_true (by omega)) (Tot.bindIdx k rfl hk' (Tot.bindIdx k rfl hk (bad_or ?_)))
  rw [it_ne,List.getElem?_eq_getElem hk,List.getElem?_eq_getElem hk',Option.some.injEq]
 ·unfold xref42_SameItems_L0;rw [if_neg (by simp;omega)]
 ·rw [all_eq hl] at hx
  rcases hx with ⟨rfl,hx⟩ | ⟨rfl,hx⟩
  ·exact Tot.some ⟨fun _=>hx,fun _=>rfl⟩
  ·exact Tot.some ⟨(fun g=>by cases g),fun g=>absurd g hx⟩
theorem eItems_tot (l m:List aItem) (hm:m.length≤1000000):Tot (slices_Equal l m) (fun b=>b=true↔l=m):=by
 unfold slices_Equal
 refine Tot.ite (fun h=>Tot.some ⟨(fun g=>by cases g),fun g=>absurd g (ne_len h)⟩) (fun h => ?_)
 have hl:=eq_len h
 refine Tot.bindT (allLoop (fun k=>l[k]? = m[k]?) (by omega:m.length≤_) (fun k hk => ?_) ?_) fun x hx => ?_
 ·have hk':k<l.length:=by omega
  unfold slices_Equal_L0
  refine Tot.iteT (decide_eq_true (by omega)) (Tot.bindIdx k rfl hk' (Tot.bindIdx k rfl hk (bad_or ?_)))
  rw [it_ne,List.getElem?_eq_getElem hk,List.getElem?_eq_getElem hk',Option.some.injEq]
 ·unfold slices_Equal_L0;rw [if_neg (by simp;omega)]
 ·rw [all_eq hl] at hx
  rcases hx with ⟨rfl,hx⟩ | ⟨rfl,hx⟩
  ·exact Tot.some ⟨fun _=>hx,fun _=>rfl⟩
  ·exact Tot.some ⟨(fun g=>by cases g),fun g=>absurd g hx⟩
theorem sInts_tot (l m:List Int) (hm:m.length≤1000000):Tot (xref23_SameInts l m) (fun b=>b=true↔l=m):=by
 unfold xref23_SameInts
 refine Tot.ite (fun h=>Tot.some ⟨(fun g=>by cases g),fun g=>absurd g (ne_len h)⟩) (fun h => ?_)
 have hl:=eq_len h
 refine Tot.bindT (allLoop (fun k=>l[k]? = m[k]?) (by omega:m.length≤_) (fun k hk => ?_) ?_) fun x hx => ?_
 ·have hk':k<l.length:=by omega
  unfold xref23_SameInts_L0
  refine Tot.iteT (decide_eq_true (by omega)) (Tot.bindIdx k rfl hk' (Tot.bindIdx k rfl hk (bad_or ?_)))
  rw [bne_iff_ne,List.getElem?_eq_getElem hk,List.getElem?_eq_getElem hk',Option.some.injEq]
 ·unfold xref23_SameInts_L0;rw [if_neg (by simp;omega)]
 ·rw [all_eq hl] at hx
  rcases hx with ⟨rfl,hx⟩ | ⟨rfl,hx⟩
  ·exact Tot.some ⟨fun _=>hx,fun _=>rfl⟩
  ·exact Tot.some ⟨(fun g=>by cases g),fun g=>absurd g hx⟩
theorem eInts_tot (l m:List Int) (hm:m.length≤1000000):Tot (slices_Equal_2 l m) (fun b=>b=true↔l=m):=by
 unfold slices_Equal_2
 refine Tot.ite (fun h=>Tot.some ⟨(fun g=>by cases g),fun g=>absurd g (ne_len h)⟩) (fun h => ?_)
 have hl:=eq_len h
 refine Tot.bindT (allLoop (fun k=>l[k]? = m[k]?) (by omega:m.length≤_) (fun k hk => ?_) ?_) fun x hx => ?_
 ·have hk':k<l.length:=by omega
  unfold slices_Equal_2_L0
  refine Tot.iteT (decide_eq_true (by omega)) (Tot.bindIdx k rfl hk' (Tot.bindIdx k rfl hk (bad_or ?_)))
  rw [bne_iff_ne,List.getElem?_eq_getElem hk,List.getElem?_eq_getElem hk',Option.some.injEq]
 ·unfold slices_Equal_2_L0;rw [if_neg (by simp;omega)]
 ·rw [all_eq hl] at hx
  rcases hx with ⟨rfl,hx⟩ | ⟨rfl,hx⟩
  ·exact Tot.some ⟨fun _=>hx,fun _=>rfl⟩
  ·exact Tot.some ⟨(fun g=>by cases g),fun g=>absurd g hx⟩
def SI (x w:List aShed):Prop:=∀ k,k<w.length→(x[k]?).map aShed.fItems=(w[k]?).map aShed.fItems
def SL (x w:List aShed):Prop:=∀ k,k<w.length→(x[k]?).map aShed.fLoads=(w[k]?).map aShed.fLoads
section
variable {x w:List aShed} (hw:ShOk w)
include hw
theorem eqf_tot:Tot (slices_EqualFunc x w) (fun b=>b=true↔x.length=w.length∧SI x w):=by
 have hwl:=hw.1
 unfold slices_EqualFunc
 refine Tot.ite (fun h=>Tot.some ⟨(fun g=>by cases g),fun g=>by rw [g.1] at h;simp at h⟩) (fun h => ?_)
 have hl:=eq_len h
 refine Tot.bindT (allLoop (fun k=>(x[k]?).map aShed.fItems=(w[k]?).map aShed.fItems) (by omega:w.length≤_) (fun k hk => ?_) ?_) fun y hy => ?_
 ·have hk':k<x.length:=by omega
  unfold slices_EqualFunc_L0 plan_Check_1
  refine Tot.iteT (decide_eq_true (by omega)) (Tot.bindIdx k rfl hk' (Tot.bindIdx k rfl hk (Tot.bindT (Tot.bindT (eItems_tot _ _ (hw.2 _ (List.getElem_mem hk)).1) fun b hb=>Tot.some hb) fun b hb=>bad_or ?_)))
  rw [List.getElem?_eq_getElem hk,List.getElem?_eq_getElem hk',Option.map_some,Option.map_some,Option.some.injEq,← hb];simp
 ·unfold slices_EqualFunc_L0;rw [if_neg (by simp;omega)]
 ·rcases hy with ⟨rfl,hy⟩ | ⟨rfl,hy⟩
  ·exact Tot.some ⟨fun _=>⟨hl,hy⟩,fun _=>rfl⟩
  ·exact Tot.some ⟨(fun g=>by cases g),fun g=>absurd g.2 hy⟩
theorem eqf2_tot:Tot (slices_EqualFunc_2 x w) (fun b=>b=true↔x.length=w.length∧SL x w):=by
 have hwl:=hw.1
 unfold slices_EqualFunc_2
 refine Tot.ite (fun h=>Tot.some ⟨(fun g=>by cases g),fun g=>by rw [g.1] at h;simp at h⟩) (fun h => ?_)
 have hl:=eq_len h
 refine Tot.bindT (allLoop (fun k=>(x[k]?).map aShed.fLoads=(w[k]?).map aShed.fLoads) (by omega:w.length≤_) (fun k hk => ?_) ?_) fun y hy => ?_
 ·have hk':k<x.length:=by omega
  unfold slices_EqualFunc_2_L0 plan_Check_2
  refine Tot.iteT (decide_eq_true (by omega)) (Tot.bindIdx k rfl hk' (Tot.bindIdx k rfl hk (Tot.bindT (Tot.bindT (eInts_tot _ _ (hw.2 _ (List.getElem_mem hk)).2) fun b hb=>Tot.some hb) fun b hb=>bad_or ?_)))
  rw [List.getElem?_eq_getElem hk,List.getElem?_eq_getElem hk',Option.map_some,Option.map_some,Option.some.injEq,← hb];simp
 ·unfold slices_EqualFunc_2_L0;rw [if_neg (by simp;omega)]
 ·rcases hy with ⟨rfl,hy⟩ | ⟨rfl,hy⟩
  ·exact Tot.some ⟨fun _=>⟨hl,hy⟩,fun _=>rfl⟩
  ·exact Tot.some ⟨(fun g=>by cases g),fun g=>absurd g.2 hy⟩
open Classical in
noncomputable def ckF (x w:List aShed):Int:=if x.length=w.length∧SI x w then (if SL x w then 0 else 41) else 39
theorem check_eq {f:aFabric} {loads:List aLoad} {o:List Int} (e1:plan_Build f loads o=some (w,0)):plan_Check f loads o x=some (ckF x w):=by
 refine Tot.eq ?_
 unfold plan_Check ckF
 refine Tot.bindOf e1 (Tot.iteF rfl (Tot.bindT (eqf_tot hw) fun b hb=>Tot.ite (fun h=>Tot.some ?_) (fun h=>Tot.bindT (eqf2_tot hw) fun c hc=>Tot.ite (fun g=>Tot.some ?_) (fun g=>Tot.some ?_))))
 ·rw [if_neg (fun k=>by rw [hb.2 k] at h;cases h)]
 ·have hs:=hb.1 (by simpa using h)
  rw [if_pos hs,if_neg (fun k=>by rw [hc.2 ⟨hs.1,k⟩] at g;cases g)]
 ·have hs:=hb.1 (by simpa using h)
  rw [if_pos hs,if_pos (hc.1 (by simpa using g)).2]
theorem rcheck_eq {f:aFabric} {loads:List aLoad} {o:List Int} (e1:xref43_Build f loads o=some (w,0)):xref43_Check f loads o x=some (ckF x w):=by
 refine Tot.eq ?_
 have hwl:=hw.1
 unfold xref43_Check ckF
 refine Tot.bindOf e1 (Tot.iteF rfl (Tot.ite (fun h=>Tot.some ?_) (fun h => ?_)))
 ·rw [if_neg (fun k=>by rw [k.1] at h;simp at h)]
 have hl:x.length=w.length:=eq_len h
 refine Tot.bindT (allLoop (fun k=>(x[k]?).map aShed.fItems=(w[k]?).map aShed.fItems) (by omega:w.length≤_) (fun k hk => ?_) ?_) fun y hy => ?_
 ·have hk':k<x.length:=by omega
  unfold xref43_Check_L0
  refine Tot.iteT (decide_eq_true (by omega)) (Tot.bindIdx k rfl hk' (Tot.bindIdx k rfl hk (Tot.bindT (sItems_tot _ _ (hw.2 _ (List.getElem_mem hk)).1) fun b hb=>bad_or ?_)))
  rw [List.getElem?_eq_getElem hk,List.getElem?_eq_getElem hk',Option.map_some,Option.map_some,Option.some.injEq,← hb];simp
 ·unfold xref43_Check_L0;rw [if_neg (by simp;omega)]
 ·rcases hy with ⟨rfl,hy⟩ | ⟨rfl,hy⟩
  ·rw [if_pos ⟨hl,hy⟩]
   refine Tot.bindT (allLoop (fun k=>(x[k]?).map aShed.fLoads=(w[k]?).map aShed.fLoads) (by omega:w.length≤_) (fun k hk => ?_) ?_) fun z hz => ?_
   ·have hk':k<x.length:=by omega
    unfold xref43_Check_L1
    refine Tot.iteT (decide_eq_true (by omega)) (Tot.bindIdx k rfl hk' (Tot.bindIdx k rfl hk (Tot.bindT (sInts_tot _ _ (hw.2 _ (List.getElem_mem hk)).2) fun b hb=>bad_or ?_)))
    rw [List.getElem?_eq_getElem hk,List.getElem?_eq_getElem hk',Option.map_some,Option.map_some,Option.some.injEq,← hb];simp
   ·unfold xref43_Check_L1;rw [if_neg (by simp;omega)]
   ·rcases hz with ⟨rfl,hz⟩ | ⟨rfl,hz⟩
    ·exact Tot.some (by rw [if_pos (show SL x w from hz)])
    ·exact Tot.some (by rw [if_neg (show ¬ SL x w from hz)])
  ·exact Tot.some (by rw [if_neg (fun g=>hy g.2)])
end
open Classical in
/-- what stands first of those that fit -/
noncomputable def fdF (a b:List aItem):List aShed→List Int×Bool
 | []=>([],false)
 | x :: l=>if x.fItems=a∨x.fItems=b then (x.fLoads,true) else fdF a b l
theorem fdF_len {n:Nat} {a b:List aItem}:∀ {l:List aShed},(∀ x∈l,x.fLoads.length≤n)→(fdF a b l).1.length≤n
 | [],_=>Nat.zero_le _
 | x :: l,h=>by
  unfold fdF
  split
  ·exact h x (List.mem_cons_self ..)
  ·exact fdF_len fun y hy=>h y (List.mem_cons_of_mem _ hy)
theorem reverse_eq {a:List aItem} (ha:a.length≤2):slices_Reverse a=some a.reverse:=by
 match a,ha with
 | [],_ =>
  unfold slices_Reverse
  exact Tot.eq (Tot.bindOf (loop_out (by unfold slices_Reverse_L0;rfl)) (Tot.some rfl))
 | [x],_ =>
  unfold slices_Reverse
  exact Tot.eq (Tot.bindOf (loop_out (by unfold slices_Reverse_L0;rfl)) (Tot.some rfl))
 | [x,y],_ =>
  unfold slices_Reverse
  refine Tot.eq (Tot.bindOf (loop_next (s':=(1,0,[y,x])) (by unfold slices_Reverse_L0;rfl) (loop_out (by unfold slices_Reverse_L0;rfl))) (Tot.some rfl))
theorem rback_eq {a:List aItem} (ha:a.length≤2):loop (xref43_Lookup_L0 a) ((w64 ((a.length:Int)-(1:Int))),([]:List aItem))=some a.reverse:=by
 match a,ha with
 | [],_=>exact loop_out (by unfold xref43_Lookup_L0;rfl)
 | [x],_=>exact loop_next (s':=(-1,[x])) (by unfold xref43_Lookup_L0;rfl) (loop_out (by unfold xref43_Lookup_L0;rfl))
 | [x,y],_=>exact loop_next (s':=(0,[y])) (by unfold xref43_Lookup_L0;rfl) (loop_next (s':=(-1,[y,x])) (by unfold xref43_Lookup_L0;rfl) (loop_out (by unfold xref43_Lookup_L0;rfl)))
section
variable {l:List aShed} (hl:Sz l) {a:List aItem} (ha:a.length≤2)
include hl ha
theorem lookup_eq:plan_Lookup l a=some (fdF a a.reverse l):=by
 have h1:=hl.1
 have hr:a.reverse.length≤2:=by rw [List.length_reverse];exact ha
 refine Tot.eq ?_
 unfold plan_Lookup
 refine Tot.bindOf (show clone_List_5 a=some a from Tot.eq (Tot.chk (limB (by omega)) (Tot.some rfl))) (Tot.bindOf (reverse_eq ha) (Tot.chk (by simp) ?_))
 have e:(a.reverse.drop 0).take a.length=a.reverse:=by rw [List.drop_zero,List.take_of_length_le (by simp)]
 rw [e]
 refine Tot.bindRng l.length (fun k (_:Unit)=>(a.reverse,((k:Nat):Int))) (fun k _=>fdF a a.reverse l=fdF a a.reverse (l.drop k)) (fun x=>match x with | .inl p=>fdF a a.reverse l=(p,true) | .inr _=>fdF a a.reverse l=([],false)) () rfl rfl (fun k b hk hb => ?_) (fun b hb => ?_) (fun x hx => ?_)
 ·have hd:l.drop k=l[k] :: l.drop (k+1):=List.drop_eq_getElem_cons hk
  rw [hd] at hb
  unfold plan_Lookup_L0
  refine Tot.iteT (decide_eq_true (by simp only;omega)) (Tot.bindIdx k rfl hk (Tot.jnR (fun m:Bool=>m=true↔(l[k].fItems=a∨l[k].fItems=a.reverse)) (fun j hj=>Tot.bindT (eItems_tot _ _ (by omega)) fun b hb=>Tot.ite (fun h=>hj _ ⟨fun _ => .inl (hb.1 h),fun _=>rfl⟩) (fun h=>Tot.bindT (eItems_tot _ _ (show a.reverse.length≤1000000 by omega)) fun c hc=>hj _ ⟨fun g => .inr (hc.1 g),fun g=>g.elim (fun g=>by rw [hb.2 g] at h;cases h) hc.2⟩)) (fun m hm=>Tot.ite (fun h=>Tot.bindOf (x:=l[k].fLoads) ?_ (Tot.stop ?_)) (fun h=>Tot.step () (by rw [wN (by omega)]) ?_))))
  ·unfold clone_List_6
   exact Tot.eq (Tot.chk (decide_eq_true (hl.2 _ (List.getElem_mem hk)).2) (Tot.some rfl))
  ·rw [hb,fdF,if_pos (hm.1 h)]
  ·rw [hb,fdF,if_neg (fun g=>by rw [hm.2 g] at h;cases h)]
 ·unfold plan_Lookup_L0
  refine Tot.iteF (decide_eq_false (by simp only;omega)) (Tot.last ?_)
  rw [List.drop_length] at hb
  exact hb
 ·cases x with
  | inl p=>exact Tot.some hx.symm
  | inr _=>exact Tot.some hx.symm
theorem rlookup_eq:xref43_Lookup l a=some (fdF a a.reverse l):=by
 have h1:=hl.1
 have hr:a.reverse.length≤2:=by rw [List.length_reverse];exact ha
 refine Tot.eq ?_
 unfold xref43_Lookup
 refine Tot.bindOf (rback_eq ha) (Tot.bindRng l.length (fun k (_:Unit)=>((k:Nat):Int)) (fun k _=>fdF a a.reverse l=fdF a a.reverse (l.drop k)) (fun x=>match x with | .inl p=>fdF a a.reverse l=(p,true) | .inr _=>fdF a a.reverse l=([],false)) () rfl rfl (fun k b hk hb => ?_) (fun b hb => ?_) (fun x hx => ?_))
 ·have hd:l.drop k=l[k] :: l.drop (k+1):=List.drop_eq_getElem_cons hk
  rw [hd] at hb
  unfold xref43_Lookup_L1
  refine Tot.iteT (decide_eq_true (by omega)) (Tot.bindIdx k rfl hk (Tot.jnR (fun m:Bool=>m=true↔(l[k].fItems=a∨l[k].fItems=a.reverse)) (fun j hj=>Tot.bindT (sItems_tot _ _ (by omega)) fun b hb=>Tot.ite (fun h=>hj _ ⟨fun _ => .inl (hb.1 h),fun _=>rfl⟩) (fun h=>Tot.bindT (sItems_tot _ _ (by omega)) fun c hc=>hj _ ⟨fun g => .inr (hc.1 g),fun g=>g.elim (fun g=>by rw [hb.2 g] at h;cases h) hc.2⟩)) (fun m hm=>Tot.ite (fun h=>Tot.chk (decide_eq_true (hl.2 _ (List.getElem_mem hk)).2) (Tot.stop ?_)) (fun h=>Tot.step () (wN (by omega)) ?_))))
  ·rw [hb,fdF,if_pos (hm.1 h)]
  ·rw [hb,fdF,if_neg (fun g=>by rw [hm.2 g] at h;cases h)]
 ·unfold xref43_Lookup_L1
  refine Tot.iteF (decide_eq_false (by omega)) (Tot.last ?_)
  rw [List.drop_length] at hb
  exact hb
 ·cases x with
  | inl p=>exact Tot.some hx.symm
  | inr _=>exact Tot.some hx.symm
end
theorem ShOk.sz {l:List aShed} (h:l.length≤100000∧∀ x∈l,x.fItems.length≤2000000∧x.fLoads.length≤2000000):Sz l :=
 ⟨h.1,fun x hx=>by have:=h.2 x hx;rw [ROOM_eq];omega⟩
theorem builds_law (a0:List aShed) (h0:(∀ y∈a0,hSh y)∧a0.length≤maxLen∧a0.length*48≤reachBytes) (a1:List Int) (h1:(∀ y∈a1,I64 y)∧a1.length≤maxLen∧a1.length*8≤reachBytes) (a2:Int) {p2:Prop} (_:p2) (a3:Int) {p3:Prop} (_:p3):xlaw43_PlanBuilds a0 a1 a2 a3=some true:=by
 refine Tot.eq ?_
 unfold xlaw43_PlanBuilds
 refine Tot.ite (fun _=>Tot.bindOf awake_eq (Tot.some rfl)) (fun h => ?_)
 have h60:a0.length≤60:=by have:=of_decide_eq_false h;omega
 have hraw:Sz a0:=⟨by omega,fun x hx=>by
  have:=(h0.1 x hx).1.2.2
  have h2:=(h0.1 x hx).2.1.2.2
  have er:reachBytes=140737488351232:=rfl
  rw [ROOM_eq];omega⟩
 refine Tot.bindOf (show exchangepointmill_New a1=some ⟨a1,0⟩ from rfl) (Tot.bindT (scene_tot _ (new_ok a1 h1.2.1)) fun r hr => ?_)
 have hs:=hr.f.s
 have hfl:=hr.f.l
 have hll:=hr.ll
 have hol:=hr.o.l
 have hn:=hr.n
 obtain⟨p,e1,e2,hb⟩:=build_ex (f:=r.1) (loads:=r.2.1) (o:=r.2.2.1) (by omega) (by omega) (by omega)
 have hp:p=(bdF r.1 r.2.1 r.2.2.1,0):=by
  rcases hb with ⟨h,_⟩ | ⟨_,h,_⟩ | ⟨_,_,h⟩
  ·exact absurd ⟨hr.vd,hr.o⟩ h
  ·omega
  ·exact h
 subst hp
 have hok:=bdF_ok r.1 (by omega:r.2.1.length≤16) r.2.2.1
 have hbl:(bdF r.1 r.2.1 r.2.2.1).length≤1000:=by unfold bdF;rw [List.length_map];exact flF_len r.1
 have hbi:∀ x∈bdF r.1 r.2.1 r.2.2.1,x.fItems.length≤2:=fun x hx=>by
  obtain⟨y,hy,rfl⟩:=List.mem_map.1 hx
  exact flF_item_len hy
 have hpos:0<(bdF r.1 r.2.1 r.2.2.1).length:=by
  unfold bdF flF
  rw [List.length_map,if_pos ⟨hr.f,by omega⟩]
  unfold failF
  rw [List.length_append,List.length_map,itF_len];omega
 have hbsz:Sz (bdF r.1 r.2.1 r.2.2.1):=ShOk.sz ⟨by omega,fun x hx=>by have:=hok.2 x hx;omega⟩
 have hck:∀ x,plan_Check r.1 r.2.1 r.2.2.1 x=some (ckF x (bdF r.1 r.2.1 r.2.2.1)):=fun x=>check_eq hok e1
 have hrck:∀ x,xref43_Check r.1 r.2.1 r.2.2.1 x=some (ckF x (bdF r.1 r.2.1 r.2.2.1)):=fun x=>rcheck_eq hok e2
 have hsame:=same_self hok
 refine Tot.bindOf e1 (Tot.bindOf e2 ?_)
 dsimp only
 generalize bdF r.1 r.2.1 r.2.2.1=Q at *
 refine Tot.jnR (fun m:Bool=>m=false) (fun j hj=>Tot.iteF (by simp) (Tot.bindOf hsame (hj _ (by simp;intro e;rw [e] at hpos;exact absurd hpos (by simp))))) (fun m hm=>Tot.iteF hm (Tot.chk (limB (by omega)) (Tot.bindOf (mod_eq a3 _ (by omega) (by omega)) (Tot.bindOf (mod_eq a2 3 (by decide) (by decide)) ?_))))
 have hm0:0≤a3 % (Q.length:Int):=Int.emod_nonneg _ (by omega)
 have hm1:a3 % (Q.length:Int)<Q.length:=Int.emod_lt_of_pos _ (by omega)
 obtain⟨k,ek⟩:∃ k:Nat,a3 % (Q.length:Int)=k:=⟨(a3 % (Q.length:Int)).toNat,by omega⟩
 have hk:k<Q.length:=by omega
 rw [ek]
 have hQk:=hok.2 _ (List.getElem_mem hk)
 have hQi:=hbi _ (List.getElem_mem hk)
 have ew:w64 ((k:Int)+1)=((k+1:Nat):Int):=wN (by omega)
 rw [ew]
 refine Tot.jnR (fun m:List aShed=>Sz m) (fun j hj=>Tot.ite (fun h => ?_) (fun h=>Tot.ite (fun h => ?_) (fun h=>Tot.ite (fun h => ?_) (fun h=>hj _ hbsz)))) (fun m hm => ?_)
 ·refine Tot.bindIdx k rfl hk (Tot.bindIdx k rfl hk (Tot.chk (limB (by omega)) (Tot.chk (limB (by rw [List.length_append];simp only [List.length_singleton];omega)) (Tot.bindIdx k rfl hk (Tot.bindIdx k rfl hk (hj _ ?_))))))
  refine ShOk.sz ⟨by rw [List.length_set];omega,fun x hx => ?_⟩
  rcases List.mem_or_eq_of_mem_set hx with hx | rfl
  ·have:=hok.2 x hx;omega
  ·simp only [List.length_append,List.length_singleton]
   omega
 ·refine Tot.chk (by simp;omega) (Tot.chk (by simp;omega) (Tot.chk (decide_eq_true (by simp)) (Tot.chk (decide_eq_true (by simp;omega)) (hj _ ?_))))
  refine ShOk.sz ⟨by rw [List.length_append,List.length_take,List.length_drop];omega,fun x hx => ?_⟩
  rcases List.mem_append.1 hx with hx | hx
  ·have:=hok.2 x (List.mem_of_mem_take hx);omega
  ·have:=hok.2 x (List.mem_of_mem_drop hx);omega
 ·refine Tot.bindIdx k rfl hk (Tot.bindIdx k rfl hk (Tot.chk (limB (by rw [List.length_append];simp only [List.length_singleton];omega)) (Tot.bindIdx k rfl hk (Tot.bindIdx k rfl hk (hj _ ?_)))))
  refine ShOk.sz ⟨by rw [List.length_set];omega,fun x hx => ?_⟩
  rcases List.mem_or_eq_of_mem_set hx with hx | rfl
  ·have:=hok.2 x hx;omega
  ·simp only [List.length_append,List.length_singleton]
   omega
 ·refine Tot.bindT (okLoop (n:=3) (by decide) (fun i hi => ?_) ?_) fun x hx=>by subst hx;exact Tot.bindOf awake_eq (Tot.some rfl)
  ·have hx:Sz (([Q,m,a0]:List (List aShed))[i]):=by
    match i,hi with
    | 0,_=>exact hbsz
    | 1,_=>exact hm
    | 2,_=>exact hraw
   unfold xlaw43_PlanBuilds_L0
   refine Tot.iteT (decide_eq_true (by simp only [List.length_cons,List.length_nil];omega)) (Tot.bindIdx i rfl hi ?_)
   generalize ([Q,m,a0]:List (List aShed))[i]=X at hx
   refine Tot.bindOf (hck X) (Tot.bindOf (hrck X) (Tot.iteF (by simp) (Tot.bindIdx k rfl hk (Tot.bindT (okLoop (n:=3) (by decide) (fun i hi => ?_) ?_) fun x hx=>by subst hx;exact Tot.some rfl))))
   ·have hy:(([Q[k].fItems,[⟨false,1⟩,⟨false,0⟩],[]]:List (List aItem))[i]).length≤2:=by
     match i,hi with
     | 0,_=>exact hQi
     | 1,_=>simp
     | 2,_=>simp
    unfold xlaw43_PlanBuilds_L1
    refine Tot.iteT (decide_eq_true (by simp only [List.length_cons,List.length_nil];omega)) (Tot.bindIdx i rfl hi ?_)
    generalize ([Q[k].fItems,[⟨false,1⟩,⟨false,0⟩],[]]:List (List aItem))[i]=Y at hy
    have hlen:(fdF Y Y.reverse X).1.length≤4611686018427387904:=fdF_len fun x hxm=>by have:=(hx.2 x hxm).2;rw [ROOM_eq] at this;omega
    exact Tot.bindOf (lookup_eq hx hy) (Tot.bindOf (rlookup_eq hx hy) (Tot.jnR (fun m:Bool=>m=false) (fun j hj=>Tot.iteF (by simp) (Tot.bindOf (ints_big _ hlen) (hj _ rfl))) (fun m hm=>Tot.iteF hm (Tot.some rfl))))
   ·unfold xlaw43_PlanBuilds_L1;rfl
  ·unfold xlaw43_PlanBuilds_L0;rfl
end Go.Proofs.Ytkcpjnjneehecaa
