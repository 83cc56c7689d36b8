/- slices.Clone at every element type, met by the shelf's contract. -/
import Derived.Test.YtkhjkjojjdkidaaGreatDoorVcU
import Derived.Shelf.SlicesE.Clone
namespace Go.Vc
open Go Go.Shelf Go.RowKit Go.Lib Go.Proofs
variable {P:Program} {ρ:Ren}
set_option maxHeartbeats 2000000 in
set_option maxRecDepth 100000 in
theorem B25 (L:SlLaysE0.n41 P ρ) (i0:TypeInfo) (z:Value) (size bytes:Nat) (hi:P.info? (ρ.t 23)=some i0) (hz0:i0.zero=some z) (hz1:i0.size=size) (hz2:i0.bytes=bytes) (hzs:z.cells.size=size) (hsz:0<size)
  (z23:∀ w,(Go.sizeOf (ρ.t 23)).run P w = .ok size w) (a:Addr) (c:Nat) (w:World) :
  Calls P (ρ.f 41) #[.slice (some a) 0 c] w fun e w'=>∃ v',e = .returned v'∧w'.ownsRow w.heap.size (ρ.t 23) size v' 0 []∧Below w.heap.size w w':=by
 have mixed:=L.mixed;have t4:=L.t4;have a4:=L.a4;have z4:=L.z4;have v4:=L.v4;have t22:=L.t22;have a22:=L.a22;have z22:=L.z22;have v22:=L.v22
 have q22:∀ (w:World) (a:Option Addr) (n c n' c':Nat),(binOp .eql (ρ.t 22) (.slice a n c) (.slice none n' c')).run P w = .ok (.bool a.isNone) w:=fun w a n c n' c'=>Lib.run_eql_slice_nil w _ _ a n c n' c' L.t22
 have u22:∀ w,Sem.run P (underlying (ρ.t 22)) w = .ok (TypeDesc.slice (ρ.t 23)) w:=run_underlying t22
 obtain⟨_,_,FG⟩:=L.f41
 go_enter FG,SlBodyN.n41_ntmps ρ
 go_wp2_with (at_builtin;refine wpList_append_own _ rfl _ _ (ρ.t 22) rfl w.heap.size (ρ.t 23) i0 z size bytes t22 hi hz0 hz1 hz2 hzs hsz _ _ _ rfl (World.ownsRow_made w #[] 0 (Nat.le_refl _) (Nat.zero_le _) (by simp)) a 0 c [] rfl (by simp) (by intro j u hj;simp at hj) (by intro u hu;cases hu) (by unfold maxLen;omega) (by omega) (by simp) ?_)
 intro v' w1 hown hgrow hnil
 go_wp2
 go_ret
 refine⟨v',rfl,by simpa using hown,?_⟩
 exact((Below.refl _ w).alloc (Nat.le_refl _) _).grown hgrow (by simp) (by intro k hk;simp [Value.ownBlock] at hk;omega)
structure CloneOk (P:Program) (f:FuncId) (e sz bytes:Nat):Prop where
 pos:0<sz
 full:∀ (b off n c:Nat) (news:List Value) (w:World),news.length=n*sz→n≤maxLen→n*bytes≤140737488355328→(∀ j u,news[j]? = some u→w.cell? ⟨b,off+j,none⟩=some u)→(∀ u∈news,u.oneCell'=true) →
  Calls P f #[.slice (some ⟨b,off,none⟩) n c] w fun ex w'=>∃ v',ex = .returned v'∧w'.ownsRow w.heap.size e sz v' n news∧Below w.heap.size w w'
 zero:∀ (a:Addr) (c:Nat) (w:World),Calls P f #[.slice (some a) 0 c] w fun ex w'=>∃ v',ex = .returned v'∧w'.ownsRow w.heap.size e sz v' 0 []∧Below w.heap.size w w'
 nil:∀ (n c:Nat) (w:World),Calls P f #[.slice none n c] w fun ex w'=>ex = .returned (.slice none 0 0)∧w'=w
theorem CloneOk.of (L:SlLaysE0.n41 P ρ) {f e sz bytes:Nat} (hf:ρ.f 41=f) (he:ρ.t 23=e) (ht:TyE P e sz bytes) (hs:∀ w,(Go.sizeOf e).run P w = .ok sz w):CloneOk P f e sz bytes:=by
 subst hf;subst he
 obtain⟨ti,z,hi,hz,hsz,hby,hzs⟩:=ht.get
 exact⟨ht.pos,fun b off n c news w h1 h2 h3 h4 h5=>(AnyE.slices_Clone L ti z sz bytes hi hz hsz hby hzs ht.pos hs b off n c news w h1 h2 h3 h4 h5).mono fun ex w' ⟨v',g1,g2,_,g3⟩=>⟨v',g1,g2,g3⟩,
  fun a c w=>B25 L ti z sz bytes hi hz hsz hby hzs ht.pos hs a c w,fun n c w=>AnyE.slices_Clone_nil L n c w⟩
theorem B18 {w:World} {b0 e sz n:Nat} {v:Value} {xs:List Value} (h:w.ownsRow b0 e sz v n xs):w.ownsRow 0 e sz v n xs:=by
 refine⟨h.1,?_⟩
 rcases h.2 with h | ⟨g,cap,cur,h1,_,h3⟩
 ·exact .inl h
 ·exact .inr ⟨g,cap,cur,h1,Nat.zero_le _,h3⟩
theorem CloneOk.run {f e sz bytes:Nat} (h:CloneOk P f e sz bytes) {Z:Nat→Prop} {w:World} {v:Value} {es:List D} (hz:∀ b,Z b→b<w.heap.size) (hb:es.length*bytes≤140737488355328) (hr:D.rep Z w (.list sz es) [v]) (hsz:∀ x∈es,x.sz=sz) :
  Calls P f #[v] w fun ex w'=>∃ v' xs,ex = .returned v'∧w'.ownsRow 0 e sz v' es.length xs∧D.repL Z w es xs∧Below w.heap.size w w'∧(v'.ownBlock=none∨∃ g,v'.ownBlock=some g∧w.heap.size≤g∧g<w'.heap.size):=by
 obtain⟨ad,c,hv,hc1,hc2,hd⟩:=hr
 have hv:v = .slice ad es.length c:=by simpa using hv
 subst hv
 have blk:∀ {w':World} {v':Value} {n:Nat} {xs:List Value},w'.ownsRow w.heap.size e sz v' n xs→v'.ownBlock=none∨∃ g,v'.ownBlock=some g∧w.heap.size≤g∧g<w'.heap.size:=fun ho=>by
  rcases ho.2 with ⟨h1,_⟩ | ⟨g,cap,cur,h1,h2,h3,_⟩
  ·left;rw [h1];rfl
  ·right;exact⟨g,by rw [h1];rfl,h2,(Array.getElem?_eq_some_iff.1 h3).1⟩
 by_cases hn:es=[]
 ·subst hn
  cases ad with
  | none =>
   refine(h.nil 0 c w).mono fun ex w' ⟨g1,g2⟩ => ?_
   subst g2
   exact⟨_,[],g1,World.ownsRow_nil _ 0 e sz,rfl,Below.refl _ _,.inl rfl⟩
  | some a =>
   refine(h.zero a c w).mono fun ex w' ⟨v',g1,g2,g3⟩ => ?_
   exact⟨v',[],g1,B18 g2,rfl,g3,blk g2⟩
 ·rcases hd with hd | ⟨b,o,ha,hzb,_,hre⟩
  ·exact absurd hd hn
  ·subst ha
   obtain⟨xs,k1,k2⟩:=D.repL_of_repE es b o hre hsz
   have hxl:=D.repL_len es xs k1
   rw [D.szL_all es hsz] at hxl
   refine(h.full b o es.length c xs w hxl (by simpa [maxLen] using Nat.le_trans hc1 hc2) hb (fun j u hj=>k2 j u hj) (D.repL_one es xs k1)).mono fun ex w' ⟨v',g1,g2,g3⟩ => ?_
   exact⟨v',xs,g1,B18 g2,k1,g3,blk g2⟩
theorem AC.cloneD {f e sz bytes:Nat} (h:CloneOk P f e sz bytes) {es:List D} (hb:es.length*bytes≤140737488355328) (hsz:∀ x∈es,x.sz=sz) :
  AC P f [.d (.list sz es)] [] (.d (.list sz es)) []:=by
 intro w σ Z cargs pre
 match cargs,pre.args with
 | [v],⟨ha,_⟩ =>
  have hr:D.rep Z w (.list sz es) [v]:=And.left ha
  refine(h.run (fun b hb=>pre.zlt b hb) hb hr hsz).mono fun ex w' ⟨v',xs,g1,g2,g3,g4,g5⟩ => ?_
  subst g1
  have hno:∀ n,¬ live (obOf []) n:=fun n ⟨o,ho⟩=>by simp [obOf,look] at ho
  have hno':∀ n,¬ live (look ([]:OL)) n:=fun n ⟨o,ho⟩=>by simp [look] at ho
  have hx:Ext Z (fun q=>Z q∨v'.ownBlock=some q) w w':=⟨fun _ h => .inl h,fun b hq=>g4.block b (pre.zlt b hq)⟩
  have h3:=D.repL_ext hx es xs g3
  refine⟨_,σ,fun q=>Z q∨v'.ownBlock=some q,rfl,⟨?_,fun n o hn=>(by simp [look] at hn),fun n m b hn=>absurd hn (hno' n),fun n _ hl=>absurd hl (hno n),fun n _ _ hl=>absurd hl (hno n),fun n b hn=>absurd hn (hno' n),fun b hq => ?_,fun _ h => .inl h,fun b hq => ?_,g4.os,g4.tape,g4.output,g4.size,fun k hk _=>g4.block k hk⟩⟩
  ·rcases g2.2 with ⟨rfl,h0⟩ | ⟨g,cap,cur,rfl,_,h1,h2,h4,h5,h6⟩
   ·have:es=[]:=List.eq_nil_of_length_eq_zero h0
    subst this
    exact⟨⟨none,0,rfl,Nat.le_refl _,by omega,.inl rfl⟩,.inr rfl⟩
   ·refine⟨⟨some ⟨g,0,none⟩,cap,rfl,h2,by simpa [maxLen] using h4,.inr ⟨g,0,rfl,.inr rfl,hsz,D.repE_of_repL es g 0 xs h3 hsz fun j u hj => ?_⟩⟩,.inr rfl⟩
    rw [Nat.zero_add,cell_of_row w' g j cur e (0,0) h1,← Array.getElem?_toList]
    rw [← h6,List.getElem?_take] at hj
    split at hj
    ·exact hj
    ·cases hj
  ·rcases hq with hq | hq
   ·exact Nat.lt_of_lt_of_le (pre.zlt b hq) g4.size
   ·rcases g5 with h5 | ⟨g,h5,_,h7⟩
    ·rw [h5] at hq;cases hq
    ·rw [h5] at hq;cases hq;exact h7
  ·rcases hq with hq | hq
   ·exact .inl hq
   ·rcases g5 with h5 | ⟨g,h5,h6,_⟩
    ·rw [h5] at hq;cases hq
    ·rw [h5] at hq;cases hq;exact .inr (.inl h6)
end Go.Vc
