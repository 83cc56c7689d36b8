/- From a law's arguments to the abstract state where package variables that hold functions are laid. -/
import Derived.Test.YtgfoabcickjphaaGreatDoorVcGl
import Derived.LaidMore
namespace Go.Vc
open Go Go.ChangeShapes Go.WideShapes Go.ChangeAt Go.RowKit
variable {P:Program}
def knowP (ks:List (Nat×Know)):List (Nat×Ob):=ks.map fun p=>(p.1,.know p.2)
def knowO (ks:List (Nat×Know)):OL:=ks.map fun p=>(p.1,some (.know p.2))
theorem know_of {ks:List (Nat×Know)}:∀ {n:Nat} {o:Ob},look (knowP ks) n=some o→∃ k,(n,k)∈ks∧o = .know k:=by
 induction ks with
 | nil=>intro n o h;simp [knowP,look] at h
 | cons p ks ih =>
  intro n o h
  obtain⟨m,k⟩:=p
  have h':look ((m,Ob.know k) :: knowP ks) n=some o:=h
  rw [look_cons] at h'
  split at h'
  ·rename_i e
   cases h'
   exact⟨k,by rw [e];exact List.mem_cons_self,rfl⟩
  ·obtain⟨k',h1,h2⟩:=ih h'
   exact⟨k',List.mem_cons_of_mem _ h1,h2⟩
theorem live_know {ks:List (Nat×Know)} {n:Nat} {o:Ob} (h:obOf (knowP ks) n=some (some o)):∃ k,(n,k)∈ks∧o = .know k:=by
 unfold obOf at h
 obtain⟨o',h1,h2⟩:=Option.map_eq_some_iff.1 h
 rw [← Option.some.inj h2]
 exact know_of h1
theorem laid_fns3 {w:World} {nm:String} {g t:Nat} {fs:Array Field} {n0 n1 n2:List UInt8} {f0 f1 f2:FuncId} {l:List (String×DataW Unit)} (h:laidMetH P l w)
  (hx:(nm,DataW.iface "func table" (.agg [.iface "func" (.lit (.string n0)),.iface "func" (.lit (.string n1)),.iface "func" (.lit (.string n2))]))∈l)
  (hg:P.globalNamed nm=some g) (ht:(P.globals[g]?).map (·.type)=some t) (hu:P.underlying t=some (.struct fs)) (hc:P.cellsOf t=3)
  {a0 a1 a2:Field} (hf:fs = #[a0,a1,a2]) (o0:a0.offset=0) (o1:a1.offset=1) (o2:a2.offset=2) (e0:P.cellsOf a0.type=1) (e1:P.cellsOf a1.type=1) (e2:P.cellsOf a2.type=1)
  (k0:∀ (fuel:Nat) (v:Value) (q:List MemPlace),DataW.trod (funcToken P) P w 0 (fun _=>true) true fuel a0.type [v]=some (.held n0,q)→v = .func (.func f0) #[] #[])
  (k1:∀ (fuel:Nat) (v:Value) (q:List MemPlace),DataW.trod (funcToken P) P w 0 (fun _=>true) true fuel a1.type [v]=some (.held n1,q)→v = .func (.func f1) #[] #[])
  (k2:∀ (fuel:Nat) (v:Value) (q:List MemPlace),DataW.trod (funcToken P) P w 0 (fun _=>true) true fuel a2.type [v]=some (.held n2,q)→v = .func (.func f2) #[] #[])
  (m:(DataW.agg [.iface "func" (.lit (.string n0)),.iface "func" (.lit (.string n1)),.iface "func" (.lit (.string n2))]:DataW Unit).funcsOut = .agg [.held n0,.held n1,.held n2]) :
  (globF g [f0,f1,f2]).holds (Zw w) w:=by
 obtain⟨g',t',cs,fuel,p,hg',ht',hv,hd⟩:=h.funcs hx
 obtain rfl:=Option.some.inj (hg.symm.trans hg')
 obtain rfl:=Option.some.inj (ht.symm.trans ht')
 rw [m] at hd
 obtain⟨xs,k,_,hag,hl,hxl,hall⟩:=DataW.trod_struct hu hd
 rw [hc] at hl
 subst hf
 have hcell:=World.var?_cell hg hv
 match hcs:cs.toList,hl with
 | [v0,v1,v2],_ =>
  rw [hcs] at hall
  have g0:=hall 0 a0 rfl
  have g1:=hall 1 a1 rfl
  have g2:=hall 2 a2 rfl
  rw [o0,e0] at g0
  rw [o1,e1] at g1
  rw [o2,e2] at g2
  simp only [List.drop_zero,List.drop_succ_cons,List.take_succ_cons,List.take_zero] at g0 g1 g2
  match xs,hxl with
  | [x0,x1,x2],_ =>
   have hx':=congrArg Prod.fst hag
   simp only [List.map_cons,List.map_nil] at hx'
   have hxe:[DataW.held n0,DataW.held n1,DataW.held n2]=[x0.1,x1.1,x2.1]:=by injection hx'
   simp only [List.cons.injEq,and_true] at hxe
   have q0:v0 = .func (.func f0) #[] #[]:=k0 k v0 x0.2 (by rw [g0,hxe.1];rfl)
   have q1:v1 = .func (.func f1) #[] #[]:=k1 k v1 x1.2 (by rw [g1,hxe.2.1];rfl)
   have q2:v2 = .func (.func f2) #[] #[]:=k2 k v2 x2.2 (by rw [g2,hxe.2.2];rfl)
   subst q0 q1 q2
   have hc0:∀ j u,(fnsOf [f0,f1,f2])[j]? = some u→w.cell? ⟨g,0+j,none⟩=some u:=fun j u hj=>by
    rw [Nat.zero_add,hcell j,← Array.getElem?_toList,hcs]
    exact hj
   refine⟨?_,hc0⟩
   have:=hc0 0 (.func (.func f0) #[] #[]) rfl
   exact(cell_spot this).2
section
variable {H:Type} {enc:TypeId×Value→H}
theorem law_callsG {f:FuncId} {fn:Func} {s:ChangeSpec} {apart fresh handsOn again:Bool} {W:World} {b0:Nat} {args:Array Value} {ds gs:List (DataW H)} {before:List MemPlace} {tb:TypeId} {ps:List (D→Prop)} {ts:List TypeId} (ks:List (Nat×Know))
  (hk:∀ p∈ks,p.2.holds (Zw W) W)
  (hval:∀ (j:Nat) t v,fn.params[j]? = some t→args[j]? = some v→Value.okWide P W .any b0 t v)
  (hW:DataW.Whole enc P fn.params.toList s.vars apart W args.toList ds gs before) (hts:fn.params.toList=ts) (hvars:s.vars=[]) (hps:RdA P ts ps) (htb:P.underlying tb=some .bool) (hres:fn.resultTypes = #[tb])
  (hl:laidOutB P=true) (hread:∀ t∈ts,P.readableRec t=true∧t<P.types.size) (hfn:∀ ds:List (DataW H),ds.length=ts.length→s.fn H ds = { results:=[.lit (.bool true)],args:=ds })
  (hac:∀ xs,FA ps xs→AC P f (xs.map .d) (knowP ks) (.d (.bool true)) (knowO ks)) :
  Calls P f args W fun e W'=>∃ v,e = .returned v∧s.post enc P fn apart fresh handsOn again W args v W':=by
 have hW':=hW
 obtain⟨p,q,hA,hV,hpq,hfz,hnd⟩:=hW
 rw [hvars] at hV
 obtain⟨rfl,rfl⟩:=trodVars_none hV
 rw [hts] at hA
 have hval':∀ (j:Nat) t v,ts[j]? = some t→args.toList[j]? = some v→Value.okWide P W .any b0 t v:=fun j t v h1 h2=>hval j t v (by rw [← hts] at h1;simpa using h1) (by simpa using h2)
 obtain⟨xs,h1,h2⟩:=RdA.repVs (obOf (knowP ks)) (fun _=>none) hps hval' hA
 have hlen:∀ {ts:List TypeId} {vs:List Value} {ds:List (DataW H)} {ps:List MemPlace},DataW.TrodAll enc P W 0 (fun _=>true) true ts vs ds ps→ds.length=ts.length:=by
  intro ts
  induction ts with
  | nil =>
   intro vs ds ps h
   cases vs<;>cases ds<;>first | rfl | cases h
  | cons t ts ih =>
   intro vs ds ps h
   cases vs with
   | nil=>cases h
   | cons v vs =>
    cases ds with
    | nil=>cases h
    | cons d ds=>obtain⟨_,_,_,h,_⟩:=h;simp [ih h]
 have hds:=hfn ds (hlen hA)
 have pre:Pre (obOf (knowP ks)) W (fun _=>none) (Zw W) (xs.map .d) args.toList:=⟨h2,fun n o h=>by
  obtain⟨k,hm,rfl⟩:=live_know h
  exact⟨rfl,hk _ hm⟩,fun n m b _ _ h3 _=>(by cases h3),fun n b _ h3=>(by cases h3),fun b h=>h⟩
 have hc:=hac xs h1 W (fun _=>none) (Zw W) args.toList pre
 rw [Array.toArray_toList] at hc
 refine hc.mono fun e W' ⟨cv,σ',Z',he,hp⟩ => ?_
 subst he
 have hcv:cv = .bool true:=rep_bool hp.res
 subst hcv
 have hb:Below W.heap.size W W':=⟨hp.os,hp.tape,hp.output,hp.size,fun k hk=>hp.block k hk (fun⟨m,_,h3⟩=>by cases h3)⟩
 have hlt:∀ x∈p,x.block<W.heap.size:=fun x hx=>hW'.lt x (by rw [hpq];simpa using hx)
 refine⟨_,rfl,post_below (pa:=p) (pv:=[]) hW' ?_ ?_ ?_ hpq hb ?_⟩
 ·intro b sp hd
  rw [List.append_nil,hds,hres]
  exact trodAll_mk1 (shut_bool htb true)
 ·intro sp hsp
  rw [List.append_nil,hds,hts]
  exact trodAll_stays hl hb hread hA hlt (fun x hx=>hsp x (by rw [hpq];simpa using hx))
 ·intro sp _
  rw [List.append_nil,hds,hvars]
  rfl
 ·exact ok_one hres rfl (okWide_bool_mk htb true)
end
end Go.Vc
