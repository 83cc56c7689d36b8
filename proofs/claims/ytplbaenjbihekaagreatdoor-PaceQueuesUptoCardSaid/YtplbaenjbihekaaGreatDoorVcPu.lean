/- A law's arguments, where what they read as is not too large. -/
import Derived.Test.YtplbaenjbihekaaGreatDoorVcPm
namespace Go.Vc
open Go Go.ChangeShapes Go.WideShapes Go.ChangeAt Go.RowKit
variable {P:Program}
structure Bulk where
 bk:(H:Type)→DataW H→Nat
 all:(H:Type)→List (DataW H)→Nat
 mem:∀ (H:Type) (d:DataW H) (l:List (DataW H)),d∈l→bk H d≤all H l
 len:∀ (H:Type) (l:List (DataW H)),l.length≤all H l
 slice:∀ (H:Type) (es sp:List (DataW H)),all H es≤bk H (.slice es sp)
 agg:∀ (H:Type) (ps:List (DataW H)),all H ps≤bk H (.agg ps)
variable {U:Bulk} {N:Nat}
structure RdU (U:Bulk) (N:Nat) (P:Program) (t:TypeId) (n:Nat) (ag:Bool) (p:D→Prop):Prop where
 run:∀ {H:Type} {enc:TypeId×Value→H} {w:World} {base:Nat} {spare:Nat→Bool} {held:Bool} {fuel:Nat} {cs:List Value} {r:DataW H×List MemPlace},
  DataW.trod enc P w base spare held fuel t cs=some r→U.bk H r.1≤N→∃ d,p d∧D.rep (Zw w) w d cs
 sz:∀ d,p d→d.sz=n
 agg:∀ d,p d→d.isAgg=ag
 ty:(P.underlying t).map descAgg=some ag
 cells:P.cellsOf t=n
theorem Rd.u {t n:Nat} {ag:Bool} {p:D→Prop} (h:Rd P t n ag p):RdU U N P t n ag p:=⟨fun h1 _=>h.run h1,h.sz,h.agg,h.ty,h.cells⟩
theorem B2s {α:Type} {e n:Nat} {ag:Bool} {f:α→D} {q:α→Prop} (he:RdU U N P e n ag (fun d=>∃ x,q x∧d=f x)) {H:Type} {enc:TypeId×Value→H} {w:World} {base:Nat} {spare:Nat→Bool} {held:Bool} {fuel b:Nat} :
  ∀ (m o:Nat),(∀ i,i<m→∃ c r,cellsAt w b (o+i*n) c∧DataW.trod enc P w base spare held fuel e c=some r∧U.bk H r.1≤N)→∃ xs:List α,xs.length=m∧(∀ x∈xs,q x)∧D.repE (Zw w) w n (xs.map f) b o
 | 0,_,_=>⟨[],rfl,by simp,trivial⟩
 | m+1,o,h=>by
  obtain⟨c,r,h1,h2,hz⟩:=h 0 (Nat.succ_pos _);obtain⟨d,⟨x,hq,rfl⟩,hr⟩:=he.run h2 hz;obtain⟨xs,g1,g2,g3⟩:=B2s he (fuel:=fuel) m (o+n) (fun i hi=>by
   obtain⟨c,r,k1,k2,kz⟩:=h (i+1) (Nat.succ_lt_succ hi);exact⟨c,r,by rw [Nat.succ_mul] at k1;rwa [show o+n+i*n=o+(i*n+n) from by omega],k2,kz⟩)
  refine⟨x :: xs,by simp [g1],?_,⟨⟨c,by simpa using h1,hr⟩,g3⟩⟩;intro y hy;rcases List.mem_cons.1 hy with hy | hy
  ·rw [hy];exact hq
  ·exact g2 y hy
theorem RdU.list {α:Type} {t e n:Nat} {ag:Bool} {f:α→D} {q:α→Prop} (hu:P.underlying t=some (.slice e)) (hc:P.cellsOf t=1) (hn:0<n) (he:RdU U N P e n ag (fun d=>∃ x,q x∧d=f x)) :
  RdU U N P t 1 false (fun d=>∃ xs:List α,((∀ x∈xs,q x)∧xs.length≤maxLen∧xs.length≤N)∧d = .list n (xs.map f)):=by
 refine⟨?_,fun d ⟨x,_,h⟩=>by subst h;rfl,fun d ⟨x,_,h⟩=>by subst h;rfl,by rw [hu];rfl,hc⟩;intro H enc w base spare held fuel cs r h hz;rcases DataW.trod_slice hu h with ⟨rfl,_⟩ | ⟨a,len,cap,elems,rest,m,_,rfl,rfl,hb,hl,hm,hlen,hel,_,_⟩
 ·exact⟨.list n [],⟨[],⟨by simp,Nat.zero_le _,by simp⟩,rfl⟩,none,0,rfl,Nat.le_refl _,by decide,.inl rfl⟩
 ·rw [he.cells] at hel;have hz1:=Nat.le_trans (U.slice H _ _) hz;have hz0:len≤N:=by
   have:=U.len H (elems.map (·.1));rw [List.length_map,hlen] at this;omega
  have hall:∀ i,i<len→∃ c r,(w.cells? base (a.add (i*n)) n)=some c∧DataW.trod enc P w base spare held m e c=some r∧U.bk H r.1≤N:=fun i hi=>by
   have h1:=hel i hi;rw [List.getElem?_eq_getElem (by omega)] at h1;obtain⟨c,h2,h3⟩:=Option.bind_eq_some_iff.1 h1;exact⟨c,_,h2,h3,Nat.le_trans (U.mem H _ _ (List.mem_map_of_mem (List.getElem_mem (by omega)))) hz1⟩
  by_cases h0:len=0
  ·subst h0;exact⟨.list n [],⟨[],⟨by simp,Nat.zero_le _,by simp⟩,rfl⟩,some a,cap,rfl,Nat.zero_le _,hm,.inl rfl⟩
  ·obtain⟨c0,r0,k1,k2,_⟩:=hall 0 (by omega);obtain⟨l0,c0'⟩:=A75 k1;have hg:=c0' 0 hn;rw [List.getElem?_eq_getElem (by omega)] at hg;simp only [Nat.zero_mul,Addr.add,if_true] at hg;obtain⟨hs,hlt⟩:=A96 hg;obtain⟨b,o,sp⟩:=a;simp only at hs hlt;subst hs;obtain⟨xs,g1,g2,g3⟩:=B2s he (fuel:=m) (b:=b) len o (fun i hi=>by
    obtain⟨c,r,j1,j2,j3⟩:=hall i hi;obtain⟨lc,cc⟩:=A75 j1;refine⟨c,r,fun j v hj => ?_,j2,j3⟩;have hjn:j<n:=by have:=(List.getElem?_eq_some_iff.1 hj).1;omega
    have:=cc j hjn;rw [hj,A15,A15] at this;exact this)
   refine⟨.list n (xs.map f),⟨xs,⟨g2,by rw [g1];omega,by rw [g1];exact hz0⟩,rfl⟩,some ⟨b,o,none⟩,cap,by simp [g1],by simp [g1];omega,hm,.inr ⟨b,o,rfl,hlt,?_,g3⟩⟩;intro d hd;obtain⟨x,hx,rfl⟩:=List.mem_map.1 hd;exact he.sz _ ⟨x,g2 x hx,rfl⟩
inductive RdUF (U:Bulk) (N:Nat) (P:Program):List Field→Nat→List (D→Prop)→Nat→Prop
 | nil {o:Nat}:RdUF U N P [] o [] o
 | cons {f:Field} {fs:List Field} {o n m:Nat} {ag:Bool} {p:D→Prop} {ps:List (D→Prop)}:f.offset=o→RdU U N P f.type n ag p→RdUF U N P fs (o+n) ps m→RdUF U N P (f :: fs) o (p :: ps) m
theorem RdUF.run {H:Type} {enc:TypeId×Value→H} {w:World} {base:Nat} {spare:Nat→Bool} {held:Bool} {fuel:Nat}:∀ {fs:List Field} {o m:Nat} {ps:List (D→Prop)},RdUF U N P fs o ps m→∀ (pre cs:List Value),pre.length=o→(pre++cs).length=m →
  (∀ f∈fs,∃ r,DataW.trod enc P w base spare held fuel f.type (((pre++cs).drop f.offset).take (P.cellsOf f.type))=some r∧U.bk H r.1≤N)→∃ ds,FA ps ds∧D.repL (Zw w) w ds cs∧o≤m
 | _,_,_,_,.nil,pre,cs,hp,hl,_=>by
  have:cs=[]:=List.length_eq_zero_iff.1 (by simp at hl;omega);subst this;exact⟨[],trivial,rfl,Nat.le_refl _⟩
 | _,_,m,_,.cons (f:=f) (o:=o) (n:=n) ho hr hf,pre,cs,hp,hl,h=>by
  obtain⟨r,h1,hz⟩:=h f (List.mem_cons_self ..);rw [ho,hr.cells,← hp,List.drop_left] at h1;obtain⟨d,hd,hrep⟩:=hr.run h1 hz;have hlen:=D.rep_len _ _ hrep;rw [hr.sz d hd] at hlen;have hsplit:pre++cs=(pre++cs.take n)++cs.drop n:=by rw [List.append_assoc,List.take_append_drop]
  obtain⟨ds,k1,k2,k3⟩:=hf.run (enc:=enc) (w:=w) (base:=base) (spare:=spare) (held:=held) (fuel:=fuel) (pre++cs.take n) (cs.drop n) (by simp only [List.length_append,hlen,hp]) (by rw [← hsplit];exact hl) (fun g hg=>by rw [← hsplit];exact h g (List.mem_cons_of_mem _ hg));exact⟨d :: ds,⟨hd,k1⟩,⟨cs.take n,cs.drop n,(List.take_append_drop n cs).symm,hrep,k2⟩,by omega⟩
theorem FA.szLU:∀ {fs:List Field} {o m:Nat} {ps:List (D→Prop)},RdUF U N P fs o ps m→∀ {ds:List D},FA ps ds→o+D.szL ds=m
 | _,_,_,_,.nil,[],_=>by simp [D.szL]
 | _,_,_,_,.cons _ hr hf,d :: ds,h=>by
  have:=FA.szLU hf h.2;rw [← hr.sz d h.1] at this;simp only [D.szL];omega
 | _,_,_,_,.nil,_ :: _,h=>h.elim
 | _,_,_,_,.cons _ _ _,[],h=>h.elim
theorem RdU.st {t n:Nat} {fs:Array Field} {l:List Field} {ps:List (D→Prop)} {p:D→Prop} (hu:P.underlying t=some (.struct fs)) (hl:fs.toList=l) (hc:P.cellsOf t=n) (hf:RdUF U N P l 0 ps n) (hp:∀ ds,FA ps ds→p (.st ds)) (hp':∀ d,p d→∃ ds,d = .st ds∧FA ps ds):RdU U N P t n true p:=by
 refine⟨?_,?_,?_,by rw [hu];rfl,hc⟩
 ·intro H enc w base spare held fuel cs r h hz;obtain⟨xs,m,_,rfl,h1,h2,h3⟩:=DataW.trod_struct hu h;have hz1:=Nat.le_trans (U.agg H _) hz;obtain⟨ds,k1,k2,_⟩:=hf.run (enc:=enc) (w:=w) (base:=base) (spare:=spare) (held:=held) (fuel:=m) [] cs rfl (by simpa using h1.trans hc) (fun f hf'=>by
   rw [← hl] at hf';obtain⟨i,hi⟩:=List.mem_iff_getElem?.1 hf';have:=h3 i f (by simpa using hi);have hlt:i<fs.size:=by have:=(List.getElem?_eq_some_iff.1 hi).1;simpa using this
   rw [List.getElem?_eq_getElem (by omega)] at this;exact⟨_,by simpa using this,Nat.le_trans (U.mem H _ _ (List.mem_map_of_mem (List.getElem_mem _))) hz1⟩)
  exact⟨.st ds,hp ds k1,k2⟩
 ·intro d hd;obtain⟨ds,rfl,h⟩:=hp' d hd;have:=FA.szLU hf h;simpa [D.sz] using this
 ·intro d hd;obtain⟨ds,rfl,_⟩:=hp' d hd;rfl
theorem RdU.repV {t n:Nat} {ag:Bool} {p:D→Prop} (h:RdU U N P t n ag p) {H:Type} {enc:TypeId×Value→H} {w:World} {base:Nat} {r:Reach} {b0:Nat} {spare:Nat→Bool} {held:Bool} {v:Value} {x:DataW H} {ps:List MemPlace}
  (hval:Value.okWide P w r b0 t v) (hd:DataW.Trod enc P w base spare held t v x ps) (hz:U.bk H x≤N) (ob:Obs) (σ:Nat→Option Nat):∃ d,p d∧RepV ob σ (Zw w) w v (.d d):=by
 obtain⟨fuel,hf⟩:=hd;obtain⟨d,hp,hr⟩:=h.run hf hz;refine⟨d,hp,?_⟩;have ha:=h.agg d hp;have hty:=h.ty;unfold RepV;cases hu:P.underlying t with
 | none=>rw [hu] at hty;cases hty
 | some k =>
  rw [hu] at hty;simp only [Option.map_some,Option.some.injEq] at hty;unfold Value.okWide at hval;rw [hu] at hval;cases ag with
  | true =>
   rw [if_pos (show(V.d d).isAgg=true from ha)];cases k<;>simp only [descAgg,Bool.false_eq_true] at hty
   all_goals
    simp only at hval;obtain⟨cs,rfl,_⟩:=hval;exact⟨cs.toList,by simp,by show D.rep (Zw w) w d cs.toList;simpa [Value.cells] using hr⟩
  | false =>
   rw [if_neg (show ¬ (V.d d).isAgg=true from by rw [show(V.d d).isAgg=false from ha];simp)];have hcell:Cell.okWide P w r b0 t v:=by
    cases k<;>simp only [descAgg,Bool.true_eq_false] at hty
    all_goals simpa using hval
   have hone:v.oneCell'=true:=by
    unfold Cell.okWide at hcell;rw [hu] at hcell;cases v with
    | agg cs =>
     cases k<;>simp [Cell.ok,hu] at hcell
    | tuple cs =>
     cases k<;>simp [Cell.ok,hu] at hcell
    | _=>rfl
   have hv:v.cells.toList=[v]:=by cases v<;>simp_all [Value.cells,Value.oneCell']
   exact⟨by rw [← hv];exact hr,.inr hone⟩
inductive RdUA (U:Bulk) (N:Nat) (P:Program):List TypeId→List (D→Prop)→Prop
 | nil:RdUA U N P [] []
 | cons {t n:Nat} {ag:Bool} {p:D→Prop} {ts:List TypeId} {ps:List (D→Prop)}:RdU U N P t n ag p→RdUA U N P ts ps→RdUA U N P (t :: ts) (p :: ps)
theorem RdUA.repVs {H:Type} {enc:TypeId×Value→H} {w:World} {base:Nat} {r:Reach} {b0:Nat} {spare:Nat→Bool} {held:Bool} (ob:Obs) (σ:Nat→Option Nat):∀ {ts:List TypeId} {ps:List (D→Prop)},RdUA U N P ts ps→∀ {vs:List Value} {xs:List (DataW H)} {pl:List MemPlace},
  (∀ (j:Nat) t v,ts[j]? = some t→vs[j]? = some v→Value.okWide P w r b0 t v)→DataW.TrodAll enc P w base spare held ts vs xs pl→(∀ x∈xs,U.bk H x≤N)→∃ ds,FA ps ds∧RepVs ob σ (Zw w) w vs (ds.map .d)
 | _,_,.nil,[],[],_,_,_,_=>⟨[],trivial,trivial⟩
 | _,_,.cons h hs,v :: vs,x :: xs,_,hval,⟨p,q,h1,h2,_⟩,hz=>by
  obtain⟨d,k1,k2⟩:=h.repV (hval 0 _ v rfl rfl) h1 (hz _ (List.mem_cons_self ..)) ob σ;obtain⟨ds,k3,k4⟩:=RdUA.repVs ob σ hs (fun j t v h3 h4=>hval (j+1) t v (by simpa using h3) (by simpa using h4)) h2 (fun y hy=>hz y (List.mem_cons_of_mem _ hy));exact⟨d :: ds,⟨k1,k3⟩,⟨k2,k4⟩⟩
 | _,_,.nil,[],_ :: _,_,_,h,_=>h.elim
 | _,_,.nil,_ :: _,_,_,_,h,_=>by cases h
 | _,_,.cons _ _,[],_,_,_,h,_=>by cases h
 | _,_,.cons _ _,_ :: _,[],_,_,h,_=>by cases h
theorem B7h {H:Type} {enc:TypeId×Value→H} {w:World} {ts:List TypeId} {vars:List String} {apart:Bool} {vs:List Value} (fuel:Nat) {k:List (DataW H)→Bool}
  (h:(DataW.whole enc P w ts vars apart vs fuel).any (fun x=>k (x.1++x.2.1))=true):∃ ds gs before,DataW.Whole enc P ts vars apart w vs ds gs before∧k (ds++gs)=true:=by
 cases e:DataW.whole enc P w ts vars apart vs fuel with
 | none=>rw [e] at h;cases h
 | some x=>rw [e] at h;exact⟨_,_,_,DataW.Whole_of_whole e,h⟩
section
variable {H:Type} {enc:TypeId×Value→H}
theorem B7i {f:FuncId} {fn:Func} {s:ChangeSpec} {apart fresh handsOn again:Bool} {W:World} {b0:Nat} {args:Array Value} {ds gs:List (DataW H)} {before:List MemPlace} {tb:TypeId} {ps:List (D→Prop)} {ts:List TypeId} (ks:List (Nat×Know))
  (hk:∀ p∈ks,p.2.holds (Zw W) W)
  (hval:∀ (j:Nat) t v,fn.params[j]? = some t→args[j]? = some v→Value.okWide P W .any b0 t v)
  (hW:DataW.Whole enc P fn.params.toList s.vars apart W args.toList ds gs before) (hts:fn.params.toList=ts) (hvars:s.vars=[]) (hz:U.all H (ds++gs)≤N) (hps:RdUA U N P ts ps) (htb:P.underlying tb=some .bool) (hres:fn.resultTypes = #[tb])
  (hl:laidOutB P=true) (hread:∀ t∈ts,P.readableRec t=true∧t<P.types.size) (hfn:∀ ds:List (DataW H),ds.length=ts.length→s.fn H ds = { results:=[.lit (.bool true)],args:=ds })
  (hac:∀ xs,FA ps xs→AC P f (xs.map .d) (knowP ks) (.d (.bool true)) (knowO ks)) :
  Calls P f args W fun e W'=>∃ v,e = .returned v∧s.post enc P fn apart fresh handsOn again W args v W':=by
 have hW':=hW;obtain⟨p,q,hA,hV,hpq,hfz,hnd⟩:=hW;rw [hvars] at hV;obtain⟨rfl,rfl⟩:=trodVars_none hV;rw [hts] at hA;have hval':∀ (j:Nat) t v,ts[j]? = some t→args.toList[j]? = some v→Value.okWide P W .any b0 t v:=fun j t v h1 h2=>hval j t v (by rw [← hts] at h1;simpa using h1) (by simpa using h2);obtain⟨xs,h1,h2⟩:=RdUA.repVs (obOf (knowP ks)) (fun _=>none) hps hval' hA (fun x hx=>Nat.le_trans (U.mem H x _ (List.mem_append_left _ hx)) hz);have hlen:∀ {ts:List TypeId} {vs:List Value} {ds:List (DataW H)} {ps:List MemPlace},DataW.TrodAll enc P W 0 (fun _=>true) true ts vs ds ps→ds.length=ts.length:=by
  intro ts;induction ts with
  | nil =>
   intro vs ds ps h;cases vs<;>cases ds<;>first | rfl | cases h
  | cons t ts ih =>
   intro vs ds ps h;cases vs with
   | nil=>cases h
   | cons v vs =>
    cases ds with
    | nil=>cases h
    | cons d ds=>obtain⟨_,_,_,h,_⟩:=h;simp [ih h]
 have hds:=hfn ds (hlen hA);have pre:Pre (obOf (knowP ks)) W (fun _=>none) (Zw W) (xs.map .d) args.toList:=⟨h2,fun n o h=>by
  obtain⟨k,hm,rfl⟩:=B9f h;exact⟨rfl,hk _ hm⟩,fun n m b _ _ h3 _=>(by cases h3),fun n b _ h3=>(by cases h3),fun b h=>h⟩
 have hc:=hac xs h1 W (fun _=>none) (Zw W) args.toList pre;rw [Array.toArray_toList] at hc;refine hc.mono fun e W' ⟨cv,σ',Z',he,hp⟩ => ?_;subst he;have hcv:cv = .bool true:=Q3 hp.res;subst hcv;have hb:Below W.heap.size W W':=⟨hp.os,hp.tape,hp.output,hp.size,fun k hk=>hp.block k hk (fun⟨m,_,h3⟩=>by cases h3)⟩;have hlt:∀ x∈p,x.block<W.heap.size:=fun x hx=>hW'.lt x (by rw [hpq];simpa using hx);refine⟨_,rfl,B7g (pa:=p) (pv:=[]) hW' ?_ ?_ ?_ hpq hb ?_⟩
 ·intro b sp hd;rw [List.append_nil,hds,hres];exact trodAll_mk1 (shut_bool htb true)
 ·intro sp hsp;rw [List.append_nil,hds,hts];exact A9g hl hb hread hA hlt (fun x hx=>hsp x (by rw [hpq];simpa using hx))
 ·intro sp _;rw [List.append_nil,hds,hvars];rfl
 ·exact ok_one hres rfl (okWide_bool_mk htb true)
end
end Go.Vc
