/- From a law's arguments to the abstract state, and from what the code does to the row. -/
import Derived.Test.YtkhjkjojjdkidaaGreatDoorVcN
import Derived.ProofKit
import Derived.Below
import Derived.OpenShut
import Derived.WideKeyArgs
namespace Go.Vc
open Go Go.ChangeShapes Go.WideShapes Go.ChangeAt Go.RowKit
variable {P:Program}
def Zw (w:World):Nat→Prop:=fun b=>b<w.heap.size
structure Rd (P:Program) (t:TypeId) (n:Nat) (ag:Bool) (p:D→Prop):Prop where
 run:∀ {H:Type} {enc:TypeId×Value→H} {w:World} {base:Nat} {spare:Nat→Bool} {held:Bool} {fuel:Nat} {cs:List Value} {r:DataW H×List MemPlace},
  DataW.trod enc P w base spare held fuel t cs=some r→∃ d,p d∧D.rep (Zw w) w d cs
 sz:∀ d,p d→d.sz=n
 agg:∀ d,p d→d.isAgg=ag
 ty:(P.underlying t).map descAgg=some ag
 cells:P.cellsOf t=n
theorem Rd.bool {t:TypeId} (hu:P.underlying t=some .bool) (hc:P.cellsOf t=1):Rd P t 1 false (fun d=>∃ x:Bool,True∧d=eB x) :=
 ⟨fun h=>by obtain⟨b,rfl,_⟩:=DataW.trod_bool hu h;exact⟨eB b,⟨b,trivial,rfl⟩,rfl⟩,fun d ⟨x,_,h⟩=>by subst h;rfl,fun d ⟨x,_,h⟩=>by subst h;rfl,by rw [hu];rfl,hc⟩
theorem Rd.int {t:TypeId} {k:IntKind} (hu:P.underlying t=some (.int k)) (hc:P.cellsOf t=1):Rd P t 1 false (fun d=>∃ x:Int,(k.min≤x∧x≤k.max)∧d=eI k x) :=
 ⟨fun h=>by
  obtain⟨n,rfl,_,hw⟩:=DataW.trod_int hu h
  simp only [Lit.wf,Bool.and_eq_true,decide_eq_true_eq] at hw
  exact⟨eI k n,⟨n,hw,rfl⟩,rfl⟩,fun d ⟨x,_,h⟩=>by subst h;rfl,fun d ⟨x,_,h⟩=>by subst h;rfl,by rw [hu];rfl,hc⟩
theorem Rd.str {t:TypeId} (hu:P.underlying t=some .string) (hc:P.cellsOf t=1):Rd P t 1 false (fun d=>∃ x:List UInt8,x.length≤maxLen∧d=eS x) :=
 ⟨fun h=>by
  obtain⟨s,rfl,_,hw⟩:=DataW.trod_string hu h
  exact⟨eS s.data.toList,⟨s.data.toList,by simpa using hw,rfl⟩,rfl⟩,fun d ⟨x,_,h⟩=>by subst h;rfl,fun d ⟨x,_,h⟩=>by subst h;rfl,by rw [hu];rfl,hc⟩
theorem A3v {w:World} {base n:Nat} {a:Addr} {cs:List Value} (h:w.cells? base a n=some cs):cs.length=n∧∀ j,j<n→w.cell? (a.add j)=cs[j]? :=by
 obtain⟨_,h2,h3⟩:=World.cells?_some h
 exact⟨h2,h3⟩
theorem A9p {α:Type} {e n:Nat} {ag:Bool} {f:α→D} {q:α→Prop} (he:Rd P e n ag (fun d=>∃ x,q x∧d=f x)) {H:Type} {enc:TypeId×Value→H} {w:World} {base:Nat} {spare:Nat→Bool} {held:Bool} {fuel b:Nat} :
  ∀ (m o:Nat),(∀ i,i<m→∃ c r,cellsAt w b (o+i*n) c∧DataW.trod enc P w base spare held fuel e c=some r)→∃ xs:List α,xs.length=m∧(∀ x∈xs,q x)∧D.repE (Zw w) w n (xs.map f) b o
 | 0,_,_=>⟨[],rfl,by simp,trivial⟩
 | m+1,o,h=>by
  obtain⟨c,r,h1,h2⟩:=h 0 (Nat.succ_pos _)
  obtain⟨d,⟨x,hq,rfl⟩,hr⟩:=he.run h2
  obtain⟨xs,g1,g2,g3⟩:=A9p he (fuel:=fuel) m (o+n) (fun i hi=>by
   obtain⟨c,r,k1,k2⟩:=h (i+1) (Nat.succ_lt_succ hi)
   exact⟨c,r,by rw [Nat.succ_mul] at k1;rwa [show o+n+i*n=o+(i*n+n) from by omega],k2⟩)
  refine⟨x :: xs,by simp [g1],?_,⟨⟨c,by simpa using h1,hr⟩,g3⟩⟩
  intro y hy
  rcases List.mem_cons.1 hy with hy | hy
  ·rw [hy];exact hq
  ·exact g2 y hy
theorem A5e {w:World} {a:Addr} {v:Value} (h:w.cell? a=some v):a.spot=none∧a.block<w.heap.size:=by
 unfold World.cell? at h
 cases hh:w.heap[a.block]? with
 | none=>simp [hh] at h
 | some o =>
  have hlt:a.block<w.heap.size:=(Array.getElem?_eq_some_iff.1 hh).1
  cases o with
  | cells c t f =>
   simp only [hh] at h
   split at h
   ·cases h
   ·rename_i hs
    exact⟨by simpa using hs,hlt⟩
  | _=>simp [hh] at h
theorem Rd.list {α:Type} {t e n:Nat} {ag:Bool} {f:α→D} {q:α→Prop} (hu:P.underlying t=some (.slice e)) (hc:P.cellsOf t=1) (hn:0<n) (he:Rd P e n ag (fun d=>∃ x,q x∧d=f x)) :
  Rd P t 1 false (fun d=>∃ xs:List α,((∀ x∈xs,q x)∧xs.length≤maxLen)∧d = .list n (xs.map f)):=by
 refine⟨?_,fun d ⟨x,_,h⟩=>by subst h;rfl,fun d ⟨x,_,h⟩=>by subst h;rfl,by rw [hu];rfl,hc⟩
 intro H enc w base spare held fuel cs r h
 rcases DataW.trod_slice hu h with ⟨rfl,_⟩ | ⟨a,len,cap,elems,rest,m,_,rfl,_,hb,hl,hm,hlen,hel,_,_⟩
 ·exact⟨.list n [],⟨[],⟨by simp,Nat.zero_le _⟩,rfl⟩,none,0,rfl,Nat.le_refl _,by decide,.inl rfl⟩
 ·rw [he.cells] at hel
  have hall:∀ i,i<len→∃ c r,(w.cells? base (a.add (i*n)) n)=some c∧DataW.trod enc P w base spare held m e c=some r:=fun i hi=>by
   have h1:=hel i hi
   rw [List.getElem?_eq_getElem (by omega)] at h1
   obtain⟨c,h2,h3⟩:=Option.bind_eq_some_iff.1 h1
   exact⟨c,_,h2,h3⟩
  by_cases h0:len=0
  ·subst h0
   exact⟨.list n [],⟨[],⟨by simp,Nat.zero_le _⟩,rfl⟩,some a,cap,rfl,Nat.zero_le _,hm,.inl rfl⟩
  ·obtain⟨c0,r0,k1,k2⟩:=hall 0 (by omega)
   obtain⟨l0,c0'⟩:=A3v k1
   have hg:=c0' 0 hn
   rw [List.getElem?_eq_getElem (by omega)] at hg
   simp only [Nat.zero_mul,Addr.add,if_true] at hg
   obtain⟨hs,hlt⟩:=A5e hg
   obtain⟨b,o,sp⟩:=a
   simp only at hs hlt
   subst hs
   obtain⟨xs,g1,g2,g3⟩:=A9p he (fuel:=m) (b:=b) len o (fun i hi=>by
    obtain⟨c,r,j1,j2⟩:=hall i hi
    obtain⟨lc,cc⟩:=A3v j1
    refine⟨c,r,fun j v hj => ?_,j2⟩
    have hjn:j<n:=by have:=(List.getElem?_eq_some_iff.1 hj).1;omega
    have:=cc j hjn
    rw [hj,A0h,A0h] at this
    exact this)
   refine⟨.list n (xs.map f),⟨xs,⟨g2,by rw [g1];omega⟩,rfl⟩,some ⟨b,o,none⟩,cap,by simp [g1],by simp [g1];omega,hm,.inr ⟨b,o,rfl,hlt,?_,g3⟩⟩
   intro d hd
   obtain⟨x,hx,rfl⟩:=List.mem_map.1 hd
   exact he.sz _ ⟨x,g2 x hx,rfl⟩
theorem A9q {α:Type} {e n:Nat} {ag:Bool} {f:α→D} {q:α→Prop} (he:Rd P e n ag (fun d=>∃ x,q x∧d=f x)) {H:Type} {enc:TypeId×Value→H} {w:World} {base:Nat} {spare:Nat→Bool} {held:Bool} {fuel:Nat} :
  ∀ (m:Nat) (cs:List Value),cs.length=m*n→(∀ i,i<m→∃ r,DataW.trod enc P w base spare held fuel e ((cs.drop (i*n)).take n)=some r)→∃ xs:List α,xs.length=m∧(∀ x∈xs,q x)∧D.repL (Zw w) w (xs.map f) cs
 | 0,cs,hl,_=>by
  have:cs=[]:=List.length_eq_zero_iff.1 (by simpa using hl)
  subst this
  exact⟨[],rfl,by simp,rfl⟩
 | m+1,cs,hl,h=>by
  obtain⟨r,h1⟩:=h 0 (Nat.succ_pos _)
  simp only [Nat.zero_mul,List.drop_zero] at h1
  obtain⟨d,⟨x,hq,rfl⟩,hr⟩:=he.run h1
  obtain⟨xs,g1,g2,g3⟩:=A9q he (fuel:=fuel) m (cs.drop n) (by rw [List.length_drop,hl,Nat.succ_mul];omega) (fun i hi=>by
   obtain⟨r,k1⟩:=h (i+1) (Nat.succ_lt_succ hi)
   rw [Nat.succ_mul,Nat.add_comm] at k1
   exact⟨r,by rw [List.drop_drop];exact k1⟩)
  refine⟨x :: xs,by simp [g1],?_,⟨cs.take n,cs.drop n,(List.take_append_drop n cs).symm,hr,g3⟩⟩
  intro y hy
  rcases List.mem_cons.1 hy with hy | hy
  ·rw [hy];exact hq
  ·exact g2 y hy
theorem Rd.arr {α:Type} {t e n m:Nat} {ag:Bool} {f:α→D} {q:α→Prop} (hu:P.underlying t=some (.array m e)) (hc:P.cellsOf t=m*n) (he:Rd P e n ag (fun d=>∃ x,q x∧d=f x)) :
  Rd P t (m*n) true (fun d=>∃ xs:List α,((∀ x∈xs,q x)∧xs.length=m)∧d = .arr m n (xs.map f)):=by
 refine⟨?_,fun d ⟨x,_,h⟩=>by subst h;rfl,fun d ⟨x,_,h⟩=>by subst h;rfl,by rw [hu];rfl,hc⟩
 intro H enc w base spare held fuel cs r h
 obtain⟨ys,k,_,_,hl,hy,hall⟩:=DataW.trod_array hu h
 rw [he.cells] at hall
 obtain⟨xs,g1,g2,g3⟩:=A9q he (enc:=enc) (w:=w) (base:=base) (spare:=spare) (held:=held) (fuel:=k) m cs (hl.trans hc) (fun i hi=>by
  have:=hall i hi
  rw [List.getElem?_eq_getElem (by omega)] at this
  exact⟨_,this⟩)
 refine⟨.arr m n (xs.map f),⟨xs,⟨g2,g1⟩,rfl⟩,by rw [List.length_map];exact g1,?_,g3⟩
 intro d hd
 obtain⟨x,hx,rfl⟩:=List.mem_map.1 hd
 exact he.sz _ ⟨x,g2 x hx,rfl⟩
def FA:List (D→Prop)→List D→Prop
 | [],[]=>True
 | p :: ps,d :: ds=>p d∧FA ps ds
 | _,_=>False
inductive RdF (P:Program):List Field→Nat→List (D→Prop)→Nat→Prop
 | nil {o:Nat}:RdF P [] o [] o
 | cons {f:Field} {fs:List Field} {o n m:Nat} {ag:Bool} {p:D→Prop} {ps:List (D→Prop)}:f.offset=o→Rd P f.type n ag p→RdF P fs (o+n) ps m→RdF P (f :: fs) o (p :: ps) m
theorem RdF.run {H:Type} {enc:TypeId×Value→H} {w:World} {base:Nat} {spare:Nat→Bool} {held:Bool} {fuel:Nat}:∀ {fs:List Field} {o m:Nat} {ps:List (D→Prop)},RdF P fs o ps m→∀ (pre cs:List Value),pre.length=o→(pre++cs).length=m →
  (∀ f∈fs,∃ r,DataW.trod enc P w base spare held fuel f.type (((pre++cs).drop f.offset).take (P.cellsOf f.type))=some r)→∃ ds,FA ps ds∧D.repL (Zw w) w ds cs∧o≤m
 | _,_,_,_,.nil,pre,cs,hp,hl,_=>by
  have:cs=[]:=List.length_eq_zero_iff.1 (by simp at hl;omega)
  subst this
  exact⟨[],trivial,rfl,Nat.le_refl _⟩
 | _,_,m,_,.cons (f:=f) (o:=o) (n:=n) ho hr hf,pre,cs,hp,hl,h=>by
  obtain⟨r,h1⟩:=h f (List.mem_cons_self ..)
  rw [ho,hr.cells,← hp,List.drop_left] at h1
  obtain⟨d,hd,hrep⟩:=hr.run h1
  have hlen:=D.rep_len _ _ hrep
  rw [hr.sz d hd] at hlen
  have hsplit:pre++cs=(pre++cs.take n)++cs.drop n:=by rw [List.append_assoc,List.take_append_drop]
  obtain⟨ds,k1,k2,k3⟩:=hf.run (enc:=enc) (w:=w) (base:=base) (spare:=spare) (held:=held) (fuel:=fuel) (pre++cs.take n) (cs.drop n) (by simp only [List.length_append,hlen,hp]) (by rw [← hsplit];exact hl) (fun g hg=>by rw [← hsplit];exact h g (List.mem_cons_of_mem _ hg))
  exact⟨d :: ds,⟨hd,k1⟩,⟨cs.take n,cs.drop n,(List.take_append_drop n cs).symm,hrep,k2⟩,by omega⟩
theorem FA.szL:∀ {fs:List Field} {o m:Nat} {ps:List (D→Prop)},RdF P fs o ps m→∀ {ds:List D},FA ps ds→o+D.szL ds=m
 | _,_,_,_,.nil,[],_=>by simp [D.szL]
 | _,_,_,_,.cons _ hr hf,d :: ds,h=>by
  have:=FA.szL hf h.2
  rw [← hr.sz d h.1] at this
  simp only [D.szL]
  omega
 | _,_,_,_,.nil,_ :: _,h=>h.elim
 | _,_,_,_,.cons _ _ _,[],h=>h.elim
theorem Rd.st {t n:Nat} {fs:Array Field} {l:List Field} {ps:List (D→Prop)} {p:D→Prop} (hu:P.underlying t=some (.struct fs)) (hl:fs.toList=l) (hc:P.cellsOf t=n) (hf:RdF P l 0 ps n) (hp:∀ ds,FA ps ds→p (.st ds)) (hp':∀ d,p d→∃ ds,d = .st ds∧FA ps ds):Rd P t n true p:=by
 refine⟨?_,?_,?_,by rw [hu];rfl,hc⟩
 ·intro H enc w base spare held fuel cs r h
  obtain⟨xs,m,_,_,h1,h2,h3⟩:=DataW.trod_struct hu h
  obtain⟨ds,k1,k2,_⟩:=hf.run (enc:=enc) (w:=w) (base:=base) (spare:=spare) (held:=held) (fuel:=m) [] cs rfl (by simpa using h1.trans hc) (fun f hf'=>by
   rw [← hl] at hf'
   obtain⟨i,hi⟩:=List.mem_iff_getElem?.1 hf'
   have:=h3 i f (by simpa using hi)
   have hlt:i<fs.size:=by have:=(List.getElem?_eq_some_iff.1 hi).1;simpa using this
   rw [List.getElem?_eq_getElem (by omega)] at this
   exact⟨_,by simpa using this⟩)
  exact⟨.st ds,hp ds k1,k2⟩
 ·intro d hd
  obtain⟨ds,rfl,h⟩:=hp' d hd
  have:=FA.szL hf h
  simpa [D.sz] using this
 ·intro d hd
  obtain⟨ds,rfl,_⟩:=hp' d hd
  rfl
theorem Rd.repV {t n:Nat} {ag:Bool} {p:D→Prop} (h:Rd P t n ag p) {H:Type} {enc:TypeId×Value→H} {w:World} {base:Nat} {r:Reach} {b0:Nat} {spare:Nat→Bool} {held:Bool} {v:Value} {x:DataW H} {ps:List MemPlace}
  (hval:Value.okWide P w r b0 t v) (hd:DataW.Trod enc P w base spare held t v x ps) (ob:Obs) (σ:Nat→Option Nat):∃ d,p d∧RepV ob σ (Zw w) w v (.d d):=by
 obtain⟨fuel,hf⟩:=hd
 obtain⟨d,hp,hr⟩:=h.run hf
 refine⟨d,hp,?_⟩
 have ha:=h.agg d hp
 have hty:=h.ty
 unfold RepV
 cases hu:P.underlying t with
 | none=>rw [hu] at hty;cases hty
 | some k =>
  rw [hu] at hty
  simp only [Option.map_some,Option.some.injEq] at hty
  unfold Value.okWide at hval
  rw [hu] at hval
  cases ag with
  | true =>
   rw [if_pos (show(V.d d).isAgg=true from ha)]
   cases k<;>simp only [descAgg,Bool.false_eq_true] at hty
   all_goals
    simp only at hval
    obtain⟨cs,rfl,_⟩:=hval
    exact⟨cs.toList,by simp,by show D.rep (Zw w) w d cs.toList;simpa [Value.cells] using hr⟩
  | false =>
   rw [if_neg (show ¬ (V.d d).isAgg=true from by rw [show(V.d d).isAgg=false from ha];simp)]
   have hcell:Cell.okWide P w r b0 t v:=by
    cases k<;>simp only [descAgg,Bool.true_eq_false] at hty
    all_goals simpa using hval
   have hone:v.oneCell'=true:=by
    unfold Cell.okWide at hcell
    rw [hu] at hcell
    cases v with
    | agg cs =>
     cases k<;>simp [Cell.ok,hu] at hcell
    | tuple cs =>
     cases k<;>simp [Cell.ok,hu] at hcell
    | _=>rfl
   have hv:v.cells.toList=[v]:=by cases v<;>simp_all [Value.cells,Value.oneCell']
   exact⟨by rw [← hv];exact hr,.inr hone⟩
inductive RdA (P:Program):List TypeId→List (D→Prop)→Prop
 | nil:RdA P [] []
 | cons {t n:Nat} {ag:Bool} {p:D→Prop} {ts:List TypeId} {ps:List (D→Prop)}:Rd P t n ag p→RdA P ts ps→RdA P (t :: ts) (p :: ps)
theorem RdA.repVs {H:Type} {enc:TypeId×Value→H} {w:World} {base:Nat} {r:Reach} {b0:Nat} {spare:Nat→Bool} {held:Bool} (ob:Obs) (σ:Nat→Option Nat):∀ {ts:List TypeId} {ps:List (D→Prop)},RdA P ts ps→∀ {vs:List Value} {xs:List (DataW H)} {pl:List MemPlace},
  (∀ (j:Nat) t v,ts[j]? = some t→vs[j]? = some v→Value.okWide P w r b0 t v)→DataW.TrodAll enc P w base spare held ts vs xs pl→∃ ds,FA ps ds∧RepVs ob σ (Zw w) w vs (ds.map .d)
 | _,_,.nil,[],[],_,_,_=>⟨[],trivial,trivial⟩
 | _,_,.cons h hs,v :: vs,x :: xs,_,hval,⟨p,q,h1,h2,_⟩=>by
  obtain⟨d,k1,k2⟩:=h.repV (hval 0 _ v rfl rfl) h1 ob σ
  obtain⟨ds,k3,k4⟩:=RdA.repVs ob σ hs (fun j t v h3 h4=>hval (j+1) t v (by simpa using h3) (by simpa using h4)) h2
  exact⟨d :: ds,⟨k1,k3⟩,⟨k2,k4⟩⟩
 | _,_,.nil,[],_ :: _,_,_,h=>h.elim
 | _,_,.nil,_ :: _,_,_,_,h=>by cases h
 | _,_,.cons _ _,[],_,_,_,h=>by cases h
 | _,_,.cons _ _,_ :: _,[],_,_,h=>by cases h
theorem A5n {H:Type} {enc:TypeId×Value→H} (hl:laidOutB P=true) {W W':World} (hb:Below W.heap.size W W') {sp:Nat→Bool}:∀ {ts:List TypeId} {vs:List Value} {ds:List (DataW H)} {ps:List MemPlace},
  (∀ t∈ts,P.readableRec t=true∧t<P.types.size)→DataW.TrodAll enc P W 0 (fun _=>true) true ts vs ds ps→(∀ p∈ps,p.block<W.heap.size)→(∀ p∈ps,sp p.block=true)→DataW.TrodAll enc P W' 0 sp true ts vs ds ps
 | [],[],[],_,_,h,_,_=>h
 | t :: ts,v :: vs,d :: ds,_,hr,⟨p,q,h1,h2,e⟩,hlt,hsp=>by
  subst e
  refine⟨p,q,?_,A5n hl hb (fun t ht=>hr t (List.mem_cons_of_mem _ ht)) h2 (fun x hx=>hlt x (List.mem_append_right _ hx)) (fun x hx=>hsp x (List.mem_append_right _ hx)),rfl⟩
  obtain⟨k1,k2⟩:=hr t (List.mem_cons_self ..)
  exact WideElems.Trod_stays hl k1 k2 h1 (fun x hx=>hb.same (hlt x (List.mem_append_left _ hx))) (fun x hx=>hsp x (List.mem_append_left _ hx))
 | [],[],_ :: _,_,_,h,_,_=>h.elim
 | [],_ :: _,_,_,_,h,_,_=>by cases h
 | _ :: _,[],_,_,_,h,_,_=>by cases h
 | _ :: _,_ :: _,[],_,_,h,_,_=>by cases h
section
variable {H:Type} {enc:TypeId×Value→H}
theorem B21 {f:Func} {s:ChangeSpec} {apart fresh handsOn again:Bool} {W W':World} {args:Array Value} {v:Value} {ds gs:List (DataW H)} {before pa pv:List MemPlace}
  (hW:DataW.Whole enc P f.params.toList s.vars apart W args.toList ds gs before)
  (hres:∀ (b:Nat) (sp:Nat→Bool) (hd:Bool),DataW.TrodAll enc P W' b sp hd f.resultTypes.toList (v.resultList f.resultTypes.size) (s.fn H (ds++gs)).results [])
  (hargs:∀ sp:Nat→Bool,(∀ p∈before,sp p.block=true)→DataW.TrodAll enc P W' 0 sp true f.params.toList args.toList (s.fn H (ds++gs)).args pa)
  (hvars:∀ sp:Nat→Bool,(∀ p∈before,sp p.block=true)→DataW.TrodVars enc P W' sp s.vars (s.fn H (ds++gs)).vars pv)
  (hps:before=pa++pv) (hb:Below W.heap.size W W')
  (hok:∀ (j:Nat) (t:TypeId) (r:Value),f.resultTypes[j]? = some t→(v.resultList f.resultTypes.size)[j]? = some r→Value.okWide P W' .any 0 t r) :
  s.post enc P f apart fresh handsOn again W args v W':=by
 have hlt:∀ p∈before,p.block<W.heap.size:=fun p hp=>hW.lt p hp
 have hold:∀ p∈before,(fun b=>decide (b<W.heap.size)) p.block=true:=fun p hp=>by simpa using hlt p hp
 refine⟨ds,gs,before,[],pa,pv,hW,hres _ _ _,hargs _ hold,hvars _ hold,World.keptBut_mono (fun p hp=>⟨hp,?_⟩) (hb.frame (· ∈ before)),fun _ => ?_⟩
 ·rw [hps,List.mem_append] at hp
  exact Or.inr hp
 ·obtain⟨_,_,_,_,_,hz,hn⟩:=hW
  refine⟨hok,_,_,([]++pa)++pv,⟨[]++pa,pv,trodAll_append (hargs _ (fun _ _=>rfl)) (hres _ _ _),hvars _ (fun _ _=>rfl),rfl,?_,?_⟩,?_⟩
  ·intro b off hp
   have hin:MemPlace.cell b off∈before:=by rw [hps];simpa using hp
   rw [hb.frozen (hlt _ hin)]
   exact hz b off hin
  ·intro ha
   have:=hn ha
   rw [hps] at this
   simpa using this
  ·intro p hp _
   rw [hps]
   simpa using hp
end
end Go.Vc
