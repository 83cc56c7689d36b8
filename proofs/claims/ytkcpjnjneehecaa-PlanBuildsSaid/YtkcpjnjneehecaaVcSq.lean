/- slices.Sorted(slices.Values(xs)) at integers: an iterator over a slice gives its numbers to a loop that leaves alone what was there before it. (appendSeqB, collectB, sortedB: the shelf's proofs for iterators over maps, turned to such loops.) -/
import Derived.Test.YtkcpjnjneehecaaVcW
import Derived.Shelf.SlIterI.Sorted
namespace Go.Vc
open Go Go.Shelf Go.RowKit Go.Maps Go.Sort Go.Proofs
variable {P:Program} {ρ:Ren}
def SeqB (F:Fence) (n:Nat) (P:Program) (g:Nat) (lb:Array Value) (S:List Int→Prop) (N:Nat) (w:World):Prop :=
 ∀ (l:Nat) (J:List Int→World→Prop) (W:World),Below w.heap.size w W→AbidesFrom W.heap.size J→(∀ s W',J s W'→Below w.heap.size w W') →
  (∀ pre x W1,J pre W1→pre.length<N→YieldAt F (n-1) P l #[encZ x] W1 fun e W'=>e = .returned (.bool true)∧J (pre++[x]) W'∧KeepsWalks W1 W')→J [] W →
  CallsIn F n P g (#[.func (.yield l) #[] #[]]++lb) W fun e W'=>(∃ v,e = .returned v)∧∃ xs,S xs∧J xs W'
set_option maxRecDepth 100000 in
set_option maxHeartbeats 1000000 in
theorem appendSeqB (L:SlLaysZI.n11 P ρ) (F:Fence) (n:Nat) (h11:F.fn (ρ.f 11)) (hro:F.round=none) (hn:2≤n) (g:Nat) (lb:Array Value) (hFg:F.fn g) (eg:∀ args w,(callFunc g args).run P w = .ok (.enter g args) w)
  (S:List Int→Prop) (N:Nat) (hN:N≤maxLen) (hNb:N*8≤140737488355328) (w:World) (hseq:SeqB F (n-1) P g lb S N w) :
  CallsIn F n P (ρ.f 11) #[.slice none 0 0,.func (.func g) #[] lb] w fun e w'=>∃ (v:Value) (ss:List Int),e = .returned v∧S ss∧w'.ownsRow w.heap.size (ρ.t 26) 1 v ss.length (ss.map encZ)∧(v = .slice none 0 0↔ss=[])∧Below w.heap.size w w':=by
 have h1:1≤n:=by omega
 have mixed:=L.mixed;have t0:=L.t0;have a0:=L.a0;have z0:=L.z0;have v0:=L.v0;have t24:=L.t24;have a24:=L.a24;have z24:=L.z24;have v24:=L.v24;have t26:=L.t26;have a26:=L.a26;have z26:=L.z26;have v26:=L.v26;have t28:=L.t28;have a28:=L.a28;have z28:=L.z28;have v28:=L.v28
 have hne:ρ.t 24≠ρ.t 26:=fun e=>by have h:=L.t24;rw [e,L.t26] at h;cases h
 have u0:=run_underlying L.t0;have u24:=run_underlying L.t24;have u26:=run_underlying L.t26;have u28:=run_underlying L.t28
 obtain⟨_,_,FG⟩:=L.f11
 refine callsIn_of_wp_marks FG rfl h11 ?_ hro
 simp only [SlBodyZ.n11_ntmps ρ,List.size_toArray,List.length_cons,List.length_nil,Nat.reduceAdd,Nat.reduceSub,Array.replicate_succ,Array.replicate_zero,List.push_toArray,List.append_toArray,List.nil_append,List.cons_append]
 gi_wp2
 refine wpIn_rangeFunc ?_
 intro fn hfn
 rw [hro]
 obtain⟨W0,hW0⟩:∃ W0,w.alloc (.cells #[.slice none 0 0] (ρ.t 24))=W0:=⟨_,rfl⟩
 have hs0:W0.heap.size=w.heap.size+1:=by rw [← hW0];simp
 have hv0:W0.heap[w.heap.size]? = some (.cells #[.slice none 0 0] (ρ.t 24) (0,0)):=by rw [← hW0];exact World.alloc_heap_new w _
 have hb0:Below w.heap.size w W0:=by rw [← hW0];exact(Below.refl _ w).alloc (Nat.le_refl _) _
 rw [hW0]
 obtain⟨W1,hW1⟩:∃ W1,(W0.alloc (.deferred (some []))).alloc (.loop (AnyZI.apRec ρ fn (.func (.func g) #[] lb) w.heap.size W0.heap.size .ready none))=W1:=⟨_,rfl⟩
 have hold:∀ k,k<W0.heap.size→W1.heap[k]? = W0.heap[k]? :=fun k hk=>by
  rw [← hW1];exact(Below.heap_alloc _ _ k (by simp;omega)).trans (Below.heap_alloc _ _ k hk)
 have hb1:Below w.heap.size w W1:=by rw [← hW1];exact(hb0.alloc hb0.size _).alloc (by have:=hb0.size;simp;omega) _
 have hs1:W1.heap.size=W0.heap.size+2:=by rw [← hW1];simp
 have hM:AnyZI.ApAt ρ w fn (.func (.func g) #[] lb) w.heap.size (W0.heap.size+1) W0.heap.size [] W1 :=
  ⟨⟨_,(hold w.heap.size (by omega)).trans hv0,⟨rfl,.inl ⟨rfl,rfl⟩⟩,by simp⟩,
   by rw [← hW1];have:=World.alloc_heap_new (W0.alloc (.deferred (some []))) (.loop (AnyZI.apRec ρ fn (.func (.func g) #[] lb) w.heap.size W0.heap.size .ready none));rwa [World.size_alloc] at this,
   by rw [← hW1];exact(Below.heap_alloc _ _ _ (by simp)).trans (World.alloc_heap_new W0 _),hb1⟩
 refine⟨W0.heap.size+1,[{ target:=.collected W0.heap.size,args:=#[] }],W1,{ target:=.fn (.func g) lb,args:=#[.func (.yield (W0.heap.size+1)) #[] #[]] },W1,g,
  #[.func (.yield (W0.heap.size+1)) #[] #[]]++lb,W1,?_,?_,?_,?_,fun _=>h1,?_⟩
 ·rw [← hW1];exact run_enterLoop_outer _ _ _ _ _
 ·simp [resolve,go_sem]
 ·intro f' hf';simp [Target.leads] at hf';subst hf';exact hFg
 ·simp [invoke,go_sem,eg]
 ·refine(hseq (W0.heap.size+1) (AnyZI.ApAt ρ w fn (.func (.func g) #[] lb) w.heap.size (W0.heap.size+1) W0.heap.size) W1 hb1 (AnyZI.ap_abides ρ _ _ _ _ _ _ _ hb1.size) (fun _ _ h=>h.below)
   (fun pre x W hJ hl=>AnyZI.apYield { L with } F (n-1-1) w fn hfn _ w.heap.size (W0.heap.size+1) W0.heap.size (by omega) (by omega) (by omega) (Nat.le_refl _) (by omega) N hN hNb pre x W hJ hl) hM).mono ?_
  rintro e W2 ⟨⟨v0,rfl⟩,ss,hS,h2⟩
  obtain⟨v,hv,hrow,hnil⟩:=h2.box
  have hend:=run_endLoop (P:=P) h2.L (by simp [AnyZI.apRec])
  obtain⟨W3,hW3⟩:∃ W3,W2.putObj (W0.heap.size+1) (.loop { AnyZI.apRec ρ fn (.func (.func g) #[] lb) w.heap.size W0.heap.size .ready none with state:=.exhausted })=W3:=⟨_,rfl⟩
  rw [hW3] at hend
  have hg3:W2.grownBy W3 (some (W0.heap.size+1)):=by rw [← hW3];exact grownBy_putObj_a _ _ _
  have hv3:W3.heap[w.heap.size]? = some (.cells #[v] (ρ.t 24) (0,0)):=by rw [← hW3];exact(World.putObj_heap_other (by omega)).trans hv
  have hK3:W3.heap[W0.heap.size]? = some (.deferred (some [])):=by rw [← hW3];exact(World.putObj_heap_other (by omega)).trans h2.K
  have hrow3:=hrow.kept hg3 (ownsRow_ne_a hrow h2.L (fun cur e=>by first | cases e | exact hne (Obj.cells.inj e).2.1))
  have hb3:Below w.heap.size w W3:=h2.below.grown hg3 h2.below.size (fun k e=>by cases e;omega)
  obtain⟨hc3,hf3⟩:=cell_of_box_a hv3
  clear hW3
  refine⟨none,W3,hend,?_⟩
  gi_wp2
  rw [← hs0]
  refine⟨by simp,.inl ⟨_,_,rfl,run_takeDeferred hK3,?_⟩⟩
  exact⟨_,results_tmp rfl _ _ _,v,ss,rfl,hS,hrow3.kept (grownBy_putObj_a _ _ _) (ownsRow_ne_a hrow3 hK3 (fun cur e=>by first | cases e | exact hne (Obj.cells.inj e).2.1)),hnil,hb3.grown (grownBy_putObj_a _ _ _) hb3.size (fun k e=>by cases e;omega)⟩
set_option maxHeartbeats 1000000 in
theorem collectB (L:SlLaysZI.n8 P ρ) (F:Fence) (n:Nat) (h8:F.fn (ρ.f 8)) (h11:F.fn (ρ.f 11)) (hro:F.round=none) (hn:3≤n) (g:Nat) (lb:Array Value) (hFg:F.fn g) (eg:∀ args w,(callFunc g args).run P w = .ok (.enter g args) w)
  (S:List Int→Prop) (N:Nat) (hN:N≤maxLen) (hNb:N*8≤140737488355328) (w:World) (hseq:SeqB F (n-1-1) P g lb S N w) :
  CallsIn F n P (ρ.f 8) #[.func (.func g) #[] lb] w fun e w'=>∃ (v:Value) (ss:List Int),e = .returned v∧S ss∧w'.ownsRow w.heap.size (ρ.t 26) 1 v ss.length (ss.map encZ)∧(v = .slice none 0 0↔ss=[])∧Below w.heap.size w w':=by
 have h1:1≤n:=by omega
 have e11:∀ args w,(callFunc (ρ.f 11) args).run P w = .ok (.enter (ρ.f 11) args) w:=L.f11.enters rfl
 have mixed:=L.mixed;have t0:=L.t0;have a0:=L.a0;have z0:=L.z0;have v0:=L.v0;have t24:=L.t24;have a24:=L.a24;have z24:=L.z24;have v24:=L.v24;have t26:=L.t26;have a26:=L.a26;have z26:=L.z26;have v26:=L.v26;have t28:=L.t28;have a28:=L.a28;have z28:=L.z28;have v28:=L.v28
 have u0:=run_underlying L.t0;have u24:=run_underlying L.t24;have u26:=run_underlying L.t26;have u28:=run_underlying L.t28
 obtain⟨_,_,FG⟩:=L.f8
 refine callsIn_of_wp FG rfl h8 ?_ hro
 simp only [SlBodyZ.n8_ntmps ρ,List.size_toArray,List.length_cons,List.length_nil,Nat.reduceAdd,Nat.reduceSub,Array.replicate_succ,Array.replicate_zero,List.push_toArray,List.append_toArray,List.nil_append,List.cons_append]
 gi_wp2_with (gi_at_fn (ρ.f 11);refine(appendSeqB { L with } F (n-1) h11 hro (by omega) g lb hFg eg S N hN hNb _ hseq).mono ?_;rintro e w' ⟨v,ss,rfl,hS,hrow,hnil,hb⟩)
 go_ret
 exact⟨v,ss,rfl,hS,hrow,hnil,hb⟩
set_option maxRecDepth 100000 in
set_option maxHeartbeats 2000000 in
theorem sortedB (L:SlLaysZI.n6 P ρ) (F:Fence) (n:Nat) (h6:F.fn (ρ.f 6)) (h8:F.fn (ρ.f 8)) (h9:F.fn (ρ.f 9)) (h11:F.fn (ρ.f 11)) (hro:F.round=none) (hn:4≤n) (hsort:AnyZI.SortsIn P ρ F (n-1)) (e9:∀ args w,(callFunc (ρ.f 9) args).run P w = .ok (.enter (ρ.f 9) args) w) (g:Nat) (lb:Array Value) (hFg:F.fn g) (eg:∀ args w,(callFunc g args).run P w = .ok (.enter g args) w)
  (S:List Int→Prop) (N:Nat) (hN:N≤maxLen) (hNb:N*8≤140737488355328) (w:World) (hseq:SeqB F (n-1-1-1) P g lb S N w) (hSN:∀ ss,S ss→ss.length≤N) :
  CallsIn F n P (ρ.f 6) #[.func (.func g) #[] lb] w fun e w'=>∃ (v:Value) (ss:List Int),e = .returned v∧S ss ∧
   w'.ownsRow w.heap.size (ρ.t 26) 1 v ss.length ((ss.mergeSort (fun x y=>decide (x≤y))).map encZ)∧(v = .slice none 0 0↔ss=[])∧Below w.heap.size w w':=by
 have h1:1≤n:=by omega
 have e8:∀ args w,(callFunc (ρ.f 8) args).run P w = .ok (.enter (ρ.f 8) args) w:=L.f8.enters rfl
 have mixed:=L.mixed;have t0:=L.t0;have a0:=L.a0;have z0:=L.z0;have v0:=L.v0;have t24:=L.t24;have a24:=L.a24;have z24:=L.z24;have v24:=L.v24;have t26:=L.t26;have a26:=L.a26;have z26:=L.z26;have v26:=L.v26;have t28:=L.t28;have a28:=L.a28;have z28:=L.z28;have v28:=L.v28
 have u0:=run_underlying L.t0;have u24:=run_underlying L.t24;have u26:=run_underlying L.t26;have u28:=run_underlying L.t28
 obtain⟨_,_,FG⟩:=L.f6
 refine callsIn_of_wp FG rfl h6 ?_ hro
 simp only [SlBodyZ.n6_ntmps ρ,List.size_toArray,List.length_cons,List.length_nil,Nat.reduceAdd,Nat.reduceSub,Array.replicate_succ,Array.replicate_zero,List.push_toArray,List.append_toArray,List.nil_append,List.cons_append]
 gi_wp2_with (gi_at_fn (ρ.f 8);refine(collectB { L with } F (n-1) h8 h11 hro (by omega) g lb hFg eg _ N hN hNb _ hseq).mono ?_;rintro e W ⟨v,ss,rfl,hS,hrow,hnil,hb⟩)
 rcases hrow.2 with ⟨rfl,hz⟩ | ⟨gb,cap,cur,rfl,hbase,hgb,r1,r2,r3,r4⟩
 ·have hss:ss=[]:=List.eq_nil_of_length_eq_zero hz
  subst hss
  gi_wp2_with (gi_at_fn (ρ.f 9);refine(hsort.2 none 0 W).mono ?_;rintro e w' ⟨rfl,rfl⟩)
  go_ret
  exact⟨.slice none 0 0,[],rfl,hS,by simpa using hrow,by simp,hb⟩
 ·have hH:Holds encZ W gb 0 ss.toArray:=holds_of_block_i hgb (by simpa using r4)
  have hgl:gb<W.heap.size:=(Array.getElem?_eq_some_iff.1 hgb).1
  have hlen:=hSN ss hS
  have hsz:ss.length<4611686018427387904:=by omega
  have cS:=hsort.1 gb 0 cap ss W hH hgl hsz
  gi_wp2_with (gi_at_fn (ρ.f 9);refine cS.mono ?_;rintro e w' ⟨rfl,nn,os,rfl⟩)
  go_ret
  exact⟨_,ss,rfl,hS,ownsRow_sorted_i (by simp) hbase hgb r1 r2 r3,hnil,hb.grown (grownBy_sorted_i _) hb.size (fun j hj=>by cases hj;exact hbase)⟩
def SortedOk (P:Program) (f g:FuncId) (et:TypeId):Prop :=
 ∀ (xs:List Int) (bx:Nat) (a:Option Addr) (c:Nat) (w:World),w.cell? ⟨bx,0,none⟩=some (.slice a xs.length c)→bx<w.heap.size→xs.length≤LIM →
  (xs=[]∨∃ b o,a=some ⟨b,o,none⟩∧b<w.heap.size∧∀ j x,xs[j]? = some x→w.cell? ⟨b,o+j,none⟩=some (.int .i64 x)) →
  Calls P f #[.func (.func g) #[] #[.pointer (some ⟨bx,0,none⟩)]] w fun e w'=>∃ v',e = .returned v'∧w'.ownsRow w.heap.size et 1 v' xs.length ((xs.mergeSort fun x y=>decide (x≤y)).map (Value.int .i64))∧Below w.heap.size w w'
theorem AC.sortedV {f g:FuncId} {bt et:TypeId} (h:SortedOk P f g et) (xs:List Int) (hc:decide (xs.length≤LIM)=true) :
  AC P f [.func g [.ptr 0 0 []]] [(0,.box bt (.d (.list 1 (xs.map (eI .i64)))))] (.d (.list 1 ((xs.mergeSort fun x y=>decide (x≤y)).map (eI .i64)))) [(0,none)]:=by
 intro w σ Z cargs pre
 have hB0:obOf [(0,Ob.box bt (.d (.list 1 (xs.map (eI .i64)))))] 0=some (some (.box bt (.d (.list 1 (xs.map (eI .i64)))))):=rfl
 have hlv:live (obOf [(0,Ob.box bt (.d (.list 1 (xs.map (eI .i64)))))]) 0:=⟨_,hB0⟩
 obtain⟨b0,cs,hσ,hcell,_,hsz,hrep⟩:=pre.obj 0 _ hB0
 match cargs,pre.args with
 | [v],⟨ha,_⟩ =>
  have hr:V.rep (obOf [(0,Ob.box bt (.d (.list 1 (xs.map (eI .i64)))))]) σ Z w (.func g [.ptr 0 0 []]) [v]:=And.left ha
  obtain⟨cvs,hv,hcv⟩:=hr
  obtain⟨cv,rest,e1,_,h2,h3⟩:=hcv
  have h3:rest=[]:=h3
  subst h3
  obtain⟨_,h2⟩:=h2
  obtain⟨b1,h4,h5⟩:=h2 hlv
  have hbb:b1=b0:=by rw [hσ] at h4;exact(Option.some.inj h4).symm
  subst hbb
  have h5:cv = .pointer (some ⟨b1,0,none⟩):=by simpa using h5
  subst h5
  subst e1
  have hv:v = .func (.func g) #[] #[.pointer (some ⟨b1,0,none⟩)]:=by simpa using hv
  subst hv
  obtain⟨a,c,hcs,hl1,hl2,hd⟩:=hrep
  have hb1:b1<w.heap.size:=(Array.getElem?_eq_some_iff.1 hcell).1
  have hc0:w.cell? ⟨b1,0,none⟩=some (.slice a xs.length c):=by
   rw [cell_of_row w b1 0 cs bt (0,0) hcell,← Array.getElem?_toList,hcs]
   simp
  have hdat:xs=[]∨∃ b o,a=some ⟨b,o,none⟩∧b<w.heap.size∧∀ j x,xs[j]? = some x→w.cell? ⟨b,o+j,none⟩=some (.int .i64 x):=by
   rcases hd with hd | ⟨b,o,ha,hz,hs,hre⟩
   ·exact .inl (List.map_eq_nil_iff.1 hd)
   ·obtain⟨news,g1,g2⟩:=D.repL_of_repE _ b o hre hs
    rw [eI_repL_eq g1] at g2
    exact .inr ⟨b,o,ha,pre.zlt b hz,fun j x hj=>g2 j _ (by rw [List.getElem?_map,hj];rfl)⟩
  refine(h xs b1 a c w hc0 hb1 (of_decide_eq_true hc) hdat).mono fun ex w' ⟨v',g1,g2,g4⟩ => ?_
  subst g1
  have hno':∀ n,¬ live (look ([(0,none)]:OL)) n:=fun n ⟨o,ho⟩=>by
   rw [look_cons] at ho
   split at ho
   ·cases ho
   ·simp [look] at ho
  have hob0:∀ n,live (obOf [(0,Ob.box bt (.d (.list 1 (xs.map (eI .i64)))))]) n→n=0:=fun n ⟨o,ho⟩=>by
   unfold obOf at ho
   rw [look_cons] at ho
   split at ho
   ·rename_i hn;exact hn.symm
   ·simp [look] at ho
  have hx:Ext Z (fun q=>Z q∨v'.ownBlock=some q) w w':=⟨fun _ h => .inl h,fun b hq=>g4.block b (pre.zlt b hq)⟩
  have h3:D.repL (fun q=>Z q∨v'.ownBlock=some q) w' ((xs.mergeSort fun x y=>decide (x≤y)).map (eI .i64)) ((xs.mergeSort fun x y=>decide (x≤y)).map (Value.int .i64)):=eI_repL _
  have hlen:(xs.mergeSort fun x y=>decide (x≤y)).length=xs.length:=List.length_mergeSort _
  have hszs:∀ e∈(xs.mergeSort fun x y=>decide (x≤y)).map (eI .i64),e.sz=1:=fun e he=>by
   obtain⟨y,_,rfl⟩:=List.mem_map.1 he
   rfl
  refine⟨_,σ,fun q=>Z q∨v'.ownBlock=some q,rfl,⟨?_,fun n o hn=>absurd ⟨o,hn⟩ (hno' n),fun n m b hn=>absurd hn (hno' n),fun n _ _ hl=>absurd hl (hno' n),fun n _ _ _ hl=>absurd hl (hno' n),fun n b hn=>absurd hn (hno' n),fun b hq => ?_,fun _ h => .inl h,fun b hq => ?_,g4.os,g4.tape,g4.output,g4.size,fun k hk _=>g4.block k hk⟩⟩
  ·rcases g2.2 with ⟨rfl,h0⟩ | ⟨q,cap,cur,rfl,_,h1,h2,h4,h5,h6⟩
   ·have:xs=[]:=List.eq_nil_of_length_eq_zero h0
    subst this
    exact⟨⟨none,0,by simp,by simp,by omega,.inl (by simp)⟩,.inr rfl⟩
   ·refine⟨⟨some ⟨q,0,none⟩,cap,by rw [List.length_map,hlen],by rw [List.length_map,hlen];exact h2,by simpa [maxLen] using h4,.inr ⟨q,0,rfl,.inr rfl,hszs,D.repE_of_repL _ q 0 _ h3 hszs fun j u hj => ?_⟩⟩,.inr rfl⟩
    rw [Nat.zero_add,cell_of_row w' q j cur et (0,0) h1,← Array.getElem?_toList]
    rw [← h6,List.getElem?_take] at hj
    split at hj
    ·exact hj
    ·cases hj
  ·rcases hq with hq | hq
   ·exact Nat.lt_of_lt_of_le (pre.zlt b hq) g4.size
   ·rcases g2.2 with ⟨rfl,_⟩ | ⟨q,cap,cur,rfl,h5,h6,_⟩
    ·cases hq
    ·have:q=b:=by simpa [Value.ownBlock] using hq
     subst this
     exact(Array.getElem?_eq_some_iff.1 h6).1
  ·rcases hq with hq | hq
   ·exact .inl hq
   ·rcases g2.2 with ⟨rfl,_⟩ | ⟨q,cap,cur,rfl,h5,h6,_⟩
    ·cases hq
    ·have:q=b:=by simpa [Value.ownBlock] using hq
     subst this
     exact .inr (.inl h5)
end Go.Vc
