/- Package variables that hold functions: they lie in settled memory. -/
import Derived.Test.YtkhjkjojjdkidaaGreatDoorVcM
import Derived.Test.YtkhjkjojjdkidaaGreatDoorVcP
import Derived.LaidMore
import Derived.Test.YtkhjkjojjdkidaaGreatDoorVcMD
import Derived.WideKeyMaps
import Derived.Maps.Own
import Derived.Maps.Range
import Derived.LaidSub
import Derived.ChangeKeys
namespace Go.Vc
open Go
variable {P:Program} {B:Base} {ops:Array Oper}
section
variable {d:Nat} {ty:TypeId} {pos:String} {af:Array Edge}
end
end Go.Vc
/- From a law's arguments to the abstract state where package variables that hold functions are laid. -/
namespace Go.Vc
open Go Go.ChangeShapes Go.WideShapes Go.ChangeAt Go.RowKit
variable {P:Program}
def knowP (ks:List (Nat×Know)):List (Nat×Ob):=ks.map fun p=>(p.1,.know p.2)
def knowO (ks:List (Nat×Know)):OL:=ks.map fun p=>(p.1,some (.know p.2))
theorem B5o {ks:List (Nat×Know)}:∀ {n:Nat} {o:Ob},look (knowP ks) n=some o→∃ k,(n,k)∈ks∧o = .know k:=by
 induction ks with
 | nil=>intro n o h;simp [knowP,look] at h
 | cons p ks ih =>
  intro n o h
  obtain⟨m,k⟩:=p
  have h':look ((m,Ob.know k) :: knowP ks) n=some o:=h
  rw [F0] at h'
  split at h'
  ·rename_i e
   cases h'
   exact⟨k,by rw [e];exact List.mem_cons_self,rfl⟩
  ·obtain⟨k',h1,h2⟩:=ih h'
   exact⟨k',List.mem_cons_of_mem _ h1,h2⟩
theorem B3i {ks:List (Nat×Know)} {n:Nat} {o:Ob} (h:obOf (knowP ks) n=some (some o)):∃ k,(n,k)∈ks∧o = .know k:=by
 unfold obOf at h
 obtain⟨o',h1,h2⟩:=Option.map_eq_some_iff.1 h
 rw [← Option.some.inj h2]
 exact B5o h1
section
variable {H:Type} {enc:TypeId×Value→H}
theorem B22 {f:FuncId} {fn:Func} {s:ChangeSpec} {apart fresh handsOn again:Bool} {W:World} {b0:Nat} {args:Array Value} {ds gs:List (DataW H)} {before:List MemPlace} {tb:TypeId} {ps:List (D→Prop)} {ts:List TypeId} (ks:List (Nat×Know))
  (hk:∀ p∈ks,p.2.holds (Zw W) W)
  (hval:∀ (j:Nat) t v,fn.params[j]? = some t→args[j]? = some v→Value.okWide P W .any b0 t v)
  (hW:DataW.Whole enc P fn.params.toList s.vars apart W args.toList ds gs before) (hts:fn.params.toList=ts) (hvars:s.vars=[]) (hps:RdA P ts ps) (htb:P.underlying tb=some .bool) (hres:fn.resultTypes = #[tb])
  (hl:laidOutB P=true) (hread:∀ t∈ts,P.readableRec t=true∧t<P.types.size) (hfn:∀ ds:List (DataW H),ds.length=ts.length→s.fn H ds = { results:=[.lit (.bool true)],args:=ds })
  (hac:∀ xs,FA ps xs→AC P f (xs.map .d) (knowP ks) (.d (.bool true)) (knowO ks)) :
  Calls P f args W fun e W'=>∃ v,e = .returned v∧s.post enc P fn apart fresh handsOn again W args v W':=by
 have hW':=hW
 obtain⟨p,q,hA,hV,hpq,hfz,hnd⟩:=hW
 rw [hvars] at hV
 obtain⟨rfl,rfl⟩:=trodVars_none hV
 rw [hts] at hA
 have hval':∀ (j:Nat) t v,ts[j]? = some t→args.toList[j]? = some v→Value.okWide P W .any b0 t v:=fun j t v h1 h2=>hval j t v (by rw [← hts] at h1;simpa using h1) (by simpa using h2)
 obtain⟨xs,h1,h2⟩:=RdA.repVs (obOf (knowP ks)) (fun _=>none) hps hval' hA
 have hlen:∀ {ts:List TypeId} {vs:List Value} {ds:List (DataW H)} {ps:List MemPlace},DataW.TrodAll enc P W 0 (fun _=>true) true ts vs ds ps→ds.length=ts.length:=by
  intro ts
  induction ts with
  | nil =>
   intro vs ds ps h
   cases vs<;>cases ds<;>first | rfl | cases h
  | cons t ts ih =>
   intro vs ds ps h
   cases vs with
   | nil=>cases h
   | cons v vs =>
    cases ds with
    | nil=>cases h
    | cons d ds=>obtain⟨_,_,_,h,_⟩:=h;simp [ih h]
 have hds:=hfn ds (hlen hA)
 have pre:Pre (obOf (knowP ks)) W (fun _=>none) (Zw W) (xs.map .d) args.toList:=⟨h2,fun n o h=>by
  obtain⟨k,hm,rfl⟩:=B3i h
  exact⟨rfl,hk _ hm⟩,fun n m b _ _ h3 _=>(by cases h3),fun n b _ h3=>(by cases h3),fun b h=>h⟩
 have hc:=hac xs h1 W (fun _=>none) (Zw W) args.toList pre
 rw [Array.toArray_toList] at hc
 refine hc.mono fun e W' ⟨cv,σ',Z',he,hp⟩ => ?_
 subst he
 have hcv:cv = .bool true:=L5 hp.res
 subst hcv
 have hb:Below W.heap.size W W':=⟨hp.os,hp.tape,hp.output,hp.size,fun k hk=>hp.block k hk (fun⟨m,_,h3⟩=>by cases h3)⟩
 have hlt:∀ x∈p,x.block<W.heap.size:=fun x hx=>hW'.lt x (by rw [hpq];simpa using hx)
 refine⟨_,rfl,B21 (pa:=p) (pv:=[]) hW' ?_ ?_ ?_ hpq hb ?_⟩
 ·intro b sp hd
  rw [List.append_nil,hds,hres]
  exact trodAll_mk1 (shut_bool htb true)
 ·intro sp hsp
  rw [List.append_nil,hds,hts]
  exact A5n hl hb hread hA hlt (fun x hx=>hsp x (by rw [hpq];simpa using hx))
 ·intro sp _
  rw [List.append_nil,hds,hvars]
  rfl
 ·exact ok_one hres rfl (okWide_bool_mk htb true)
end
end Go.Vc
/- Package variables that are data, and maps of numbers among them: they lie in settled memory. -/
namespace Go.Vc
open Go
variable {P:Program} {B:Base} {ops:Array Oper}
def globD (g:Nat) (x:D):Know where
 holds Z w:=Z g∧∃ cs,cellsAt w g 0 cs∧D.rep Z w x cs
 move hx h:=by
  obtain⟨h1,cs,h2,h3⟩:=h
  exact⟨hx.sub g h1,cs,h2.of_block (hx.same g h1),D.rep_ext hx x cs h3⟩
section
variable {d:Nat} {ty:TypeId} {pos:String} {af:Array Edge} {x i:Operand} {nt nt':List (Nat×V)}
theorem OpJ.loadGD {t:TypeId} {n g nm:Nat} {ag:Bool} (y:D) (ht:TyS P t n ag) (hn:y.sz=n) (ha:y.isAgg=ag) (h1:ag=false→n=1) (hN:d<B.N) :
  OpJ P B ops ⟨some d,.load t (.global g),ty,pos,af,none⟩ { no:=[(nm,.know (globD g y))],wt:=[(d,.d y)] } :=
 OpJ.run rfl rfl hN rfl fun env ob a w σ Z sm hne=>by
  have hob:=hne.2.1 (nm,.know (globD g y)) (by simp)
  obtain⟨_,_,cs,hc,hr⟩:=sm.obj nm _ hob
  have hl:cs.length=n:=by rw [D.rep_len y cs hr,hn]
  refine⟨valOf ag cs,w,σ,Z,?_,by rw [G4 _ rfl];exact sm,?_⟩
  ·simp only [execOp,Act.eval,Instr.loadAt,Instr.sureAddr,Sem.run_bind,Sem.run_pure,Result.andThen_ok,N3 ht hc hl h1]
  ·rw [G4 _ rfl]
   exact DV.to ⟨cs,by rw [ha],hr⟩
def ilk (es:List (Int×Int)) (k:Int):Int:=match es.find? fun p=>k==p.1 with
 | some p=>p.2
 | none=>0
theorem B5h {es:List (Int×Int)} (hn:(es.map (·.1)).Nodup) {k v:Int} (h:(k,v)∈es):es.find? (fun p=>k==p.1)=some (k,v):=by
 induction es with
 | nil=>cases h
 | cons p es ih =>
  rw [List.map_cons,List.nodup_cons] at hn
  rcases List.mem_cons.1 h with e | h
  ·subst e;simp
  ·have:¬ k=p.1:=fun e=>hn.1 (by rw [← e];exact List.mem_map.2 ⟨_,h,rfl⟩)
   rw [List.find?_cons_of_neg (by simpa using this)]
   exact ih hn.2 h
theorem B47 {es:List (Int×Int)} (hn:(es.map (·.1)).Nodup) {k v:Int} (h:(k,v)∈es):ilk es k=v:=by unfold ilk;rw [B5h hn h]
theorem B0s {es:List (Int×Int)} {k:Int} (h:∀ v,(k,v)∉es):ilk es k=0:=by
 unfold ilk
 rw [List.find?_eq_none.2 fun p hp e=>h p.2 (by rw [show k=p.1 from by simpa using e];exact hp)]
theorem B48 {es:List (Int×Int)} {k:Int}:(mget (fun a b:Int=>a==b) es k).getD 0=ilk es k:=by
 unfold mget ilk
 induction es with
 | nil=>rfl
 | cons p es ih =>
  rw [mix,List.find?_cons]
  cases h:(k==p.1) with
  | true=>simp
  | false =>
   simp only [Bool.false_eq_true,if_false]
   rw [← ih]
   cases mix (fun a b:Int=>a==b) k es<;>rfl
theorem B49 {es fs:List (Int×Int)} (hp:es.Perm fs) (hn:(fs.map (·.1)).Nodup) (k:Int):ilk es k=ilk fs k:=by
 have hn':(es.map (·.1)).Nodup:=(hp.map _).nodup_iff.2 hn
 by_cases h:∃ v,(k,v)∈fs
 ·obtain⟨v,h⟩:=h
  rw [B47 hn h,B47 hn' (hp.mem_iff.2 h)]
 ·rw [B0s (fun v g=>h ⟨v,g⟩),B0s (fun v g=>h ⟨v,hp.mem_iff.1 g⟩)]
theorem MapL.ints {Z:Nat→Prop} {w:World}:∀ {es:List (Int×Int)} {ents:List MapEntry},(ents.map fun e=>(e.key,e.val))=(es.map fun p=>(Value.int .i64 p.1,Value.int .i64 p.2))→MapL Z w (mpairs (eI .i64) (eI .i64) es) ents
 | [],[],_=>trivial
 | p :: es,e :: ents,h=>by
  rw [List.map_cons,List.map_cons] at h
  injection h with h1 h2
  injection h1 with h3 h4
  exact⟨⟨⟨[e.key],rfl,by rw [h3];rfl⟩,⟨[e.val],rfl,by rw [h4];rfl⟩⟩,MapL.ints h2⟩
 | [],_ :: _,h=>by cases h
 | _ :: _,[],h=>by cases h
theorem B3a:∀ {es:List (Int×Int)} {vs:List (Value×Value)},vs.Perm (es.map fun p=>(Value.int .i64 p.1,Value.int .i64 p.2))→∃ fs:List (Int×Int),fs.Perm es∧vs=fs.map fun p=>(Value.int .i64 p.1,Value.int .i64 p.2):=by
 intro es vs h
 have hall:∀ v∈vs,∃ p:Int×Int,v=(Value.int .i64 p.1,Value.int .i64 p.2):=fun v hv=>by
  obtain⟨p,_,e⟩:=List.mem_map.1 (h.mem_iff.1 hv)
  exact⟨p,e.symm⟩
 have key:∀ vs:List (Value×Value),(∀ v∈vs,∃ p:Int×Int,v=(Value.int .i64 p.1,Value.int .i64 p.2))→∃ fs:List (Int×Int),vs=fs.map fun p=>(Value.int .i64 p.1,Value.int .i64 p.2):=by
  intro vs
  induction vs with
  | nil=>exact fun _=>⟨[],rfl⟩
  | cons v vs ih =>
   intro h
   obtain⟨p,hp⟩:=h v (List.mem_cons_self ..)
   obtain⟨fs,hf⟩:=ih fun x hx=>h x (List.mem_cons_of_mem _ hx)
   exact⟨p :: fs,by rw [hp,hf];rfl⟩
 obtain⟨fs,hf⟩:=key vs hall
 refine⟨fs,?_,hf⟩
 subst hf
 have back:∀ l:List (Int×Int),(l.map fun p=>(Value.int .i64 p.1,Value.int .i64 p.2)).map (fun v:Value×Value=>((match v.1 with | .int _ n=>n | _=>0),(match v.2 with | .int _ n=>n | _=>0)))=l:=fun l=>by
  rw [List.map_map]
  exact List.map_id'' (fun p=>rfl) l
 have:=h.map (fun v:Value×Value=>((match v.1 with | .int _ n=>n | _=>(0:Int)),(match v.2 with | .int _ n=>n | _=>(0:Int))))
 rwa [back,back] at this
theorem OpJ.ilook {t kt et:TypeId} {es:List (Int×Int)} {k:Int} (hu:P.underlying t=some (.map kt et)) (hk:P.underlying kt=some (.int .i64)) (he:KeyEq P kt (eI .i64) (fun a b:Int=>a==b)) (hz:TyZ P et (.d (.int .i64 0))) (hN:d<B.N)
  (hx:Opd x (.d (.imap es)) nt) (hi:Opd i (.d (.int .i64 k)) nt') :
  OpJ P B ops ⟨some d,.lookup t x i false,ty,pos,af,none⟩ { nt:=nt++nt',wt:=[(d,.d (.int .i64 (ilk es k)))] } :=
 OpJ.run rfl rfl hN rfl fun env ob a w σ Z sm hne=>by
  obtain⟨h1,h2⟩:=E7 hne.1
  obtain⟨cs,hv,hr⟩:=U6 (hx B env ob a w σ Z sm h1)
  obtain⟨b,rfl,hZ,ents,clock,hw,hp,hn⟩:=(show D.rep Z w (.imap es) cs from hr)
  have hv:a.eval x = .map (some b):=hv
  obtain⟨fs,hf1,hf2⟩:=B3a hp
  have hL:MapL Z w (mpairs (eI .i64) (eI .i64) fs) ents.toList:=MapL.ints hf2
  have hkv:=hi B env ob a w σ Z sm h2
  obtain⟨ck,hke,hkr⟩:=U6 hkv
  obtain⟨hh,hle,hfit⟩:=he.fit
  have hc:=(hfit k k).check (w:=w) ents.isEmpty (d:=10000) hle hkr
  obtain⟨r,g1,g2⟩:=A8f (w:=w) hk he ⟨ck,rfl,hkr⟩ hL
  have hg:(getObj b).run P w = .ok (.map ents clock) w:=by simp [getObj,Sem.run,hw]
  have hzr:=hz.run w
  have hval:ilk es k=(mget (fun a b:Int=>a==b) fs k).getD 0:=by rw [B48,B49 hf1 hn]
  rw [hval]
  unfold mget
  have hke:a.eval i=valOf (eI .i64 k).isAgg ck:=hke
  cases hq:mix (fun a b:Int=>a==b) k fs with
  | none =>
   rw [hq] at g2
   subst g2
   have hrun:(Instr.lookup t (a.eval x) (a.eval i) false).run P w = .ok (valOf (V.d (.int .i64 0)).isAgg (V.d (.int .i64 0)).enc) w:=by
    rw [hv,hke]
    simp [Instr.lookup,run_underlying hu,hg,hc,g1,hzr]
   refine⟨_,w,σ,Z,by simp only [execOp,Sem.run_bind,hrun,Result.andThen_ok,Sem.run_pure];rfl,by rw [G4 _ rfl];exact sm,?_⟩
   exact Q9 _ _
  | some q =>
   rw [hq] at g2
   obtain⟨v,rfl,g3⟩:=g2
   have hrun:(Instr.lookup t (a.eval x) (a.eval i) false).run P w = .ok v w:=by
    rw [hv,hke]
    simp [Instr.lookup,run_underlying hu,hg,hc,g1]
   refine⟨_,w,σ,Z,by simp only [execOp,Sem.run_bind,hrun,Result.andThen_ok,Sem.run_pure];rfl,by rw [G4 _ rfl];exact sm,?_⟩
   rw [G4 _ rfl]
   exact DV.to g3
end
end Go.Vc
/- Package variables that are laid as data: maps of numbers. -/
namespace Go.Vc
open Go Go.ChangeShapes Go.WideShapes Go.ChangeAt Go.RowKit
variable {P:Program}
theorem A66 {w:World} {n:String} {d:DataW Unit}:∀ {l:List (String×DataW Unit)} {ps:List MemPlace},DataW.LaidVars P w l ps→(n,d)∈l →
  ∃ g t cs fuel p,P.globalNamed n=some g∧(P.globals[g]?).map (·.type)=some t∧w.var? P n=some cs∧DataW.trod (fun _=>()) P w 0 (fun _=>true) false fuel t cs.toList=some (d,p)
 | (n',d') :: l,ps,⟨g,t,cs,fuel,p,q,h1,h2,h3,h4,h5,_⟩,hx=>by
  rcases List.mem_cons.1 hx with e | hx
  ·cases e;exact⟨g,t,cs,fuel,p,h1,h2,h3,h4⟩
  ·exact A66 h5 hx
theorem B3j {w:World} {l:List (String×DataW Unit)} (h:laidMetH P l w) {n:String} {d:DataW Unit} (hx:(n,d)∈l) (hn:d.handleName? = none) :
  ∃ g t cs fuel p,P.globalNamed n=some g∧(P.globals[g]?).map (·.type)=some t∧w.var? P n=some cs∧DataW.trod (fun _=>()) P w 0 (fun _=>true) false fuel t cs.toList=some (d,p):=by
 obtain⟨⟨ps,hl,_,_⟩,_⟩:=laidMetH_iff.1 h
 exact A66 hl (List.mem_filter.2 ⟨hx,by simp [hn]⟩)
theorem B3k {W:World} {l:List (String×DataW Unit)} (h:laidMetH P l W) {n:String} {es:List (Int×Int)} (hx:(n,DataW.map (es.map fun p=>(Lit.int .i64 p.1,DataW.lit (.int .i64 p.2))))∈l) {g t k e:Nat}
  (hg:P.globalNamed n=some g) (ht:(P.globals[g]?).map (·.type)=some t) (hu:P.underlying t=some (.map k e)) (hk:P.underlying k=some (.int .i64)) (he:P.underlying e=some (.int .i64)) (hnd:(es.map (·.1)).Nodup) :
  (globD g (.imap es)).holds (Zw W) W:=by
 obtain⟨g',t',cs,fuel,p,hg',ht',hv,hd⟩:=B3j h hx rfl
 obtain rfl:=Option.some.inj (hg.symm.trans hg')
 obtain rfl:=Option.some.inj (ht.symm.trans ht')
 rcases WideMaps.open_map hu he hd with ⟨_,hx2⟩ | ⟨b,ents,clock,hcs,hb,_,F,hx2⟩
 ·exact absurd (congrArg Prod.fst hx2) (by simp)
 have hE:=congrArg Prod.fst hx2
 simp only [DataW.map.injEq] at hE
 have hperm:(es.map fun p=>((Lit.int .i64 p.1,DataW.lit (.int .i64 p.2)):Lit×DataW Unit)).Perm (ents.toList.map (WideMaps.rg Unit P k .i64)):=by rw [hE];exact WideShapes.sorted_perm _
 have hcell:=World.var?_cell hg hv
 have hback:∀ x∈ents.toList,∃ a c:Int,x.key = .int .i64 a∧x.val = .int .i64 c∧WideMaps.rg Unit P k .i64 x=(.int .i64 a,.lit (.int .i64 c)):=fun x hx=>by
  obtain⟨y,hy⟩:=F.reads x hx
  obtain⟨c,hc1,hc2,_⟩:=WideMaps.rd_val hy
  have hkey:=WideMaps.rd_key hy
  rw [keyOf_int hk] at hkey
  unfold mapKey at hkey
  rw [hk] at hkey
  cases hkv:x.key with
  | int q m =>
   rw [hkv] at hkey
   simp only at hkey
   split at hkey
   ·rename_i hh
    refine⟨m,c,by rw [hh.1],hc1,?_⟩
    rw [WideMaps.rg_of hy]
    exact Prod.ext (Option.some.inj hkey).symm hc2
   ·cases hkey
  | _=>rw [hkv] at hkey;cases hkey
 have hvals:(ents.toList.map fun x=>(x.key,x.val)).Perm (es.map fun p=>(Value.int .i64 p.1,Value.int .i64 p.2)):=by
  let F':Lit×DataW Unit→Value×Value:=fun y=>((match y.1 with | .int _ a=>Value.int .i64 a | _ => .nilIface),(match y.2 with | .lit (.int _ c)=>Value.int .i64 c | _ => .nilIface))
  have h1:=hperm.map F'
  rw [List.map_map,List.map_map] at h1
  have e1:(es.map (F' ∘ fun p=>((Lit.int .i64 p.1,DataW.lit (.int .i64 p.2)):Lit×DataW Unit)))=es.map fun p=>(Value.int .i64 p.1,Value.int .i64 p.2):=rfl
  have e2:(ents.toList.map (F' ∘ WideMaps.rg Unit P k .i64))=ents.toList.map fun x=>(x.key,x.val):=List.map_congr_left fun x hx=>by
   obtain⟨a,c,ha,hc,hr⟩:=hback x hx
   show F' (WideMaps.rg Unit P k .i64 x)=_
   rw [hr,ha,hc]
  rw [e1,e2] at h1
  exact h1.symm
 have hc0:W.cell? ⟨g,0,none⟩=some (.map (some b)):=by
  have:=hcell 0
  rw [← Array.getElem?_toList,hcs] at this
  exact this
 refine⟨(A5e hc0).2,[.map (some b)],fun j v hj => ?_,b,rfl,(Array.getElem?_eq_some_iff.1 hb).1,ents,clock,hb,hvals,hnd⟩
 match j,hj with
 | 0,hj=>cases hj;exact hc0
 | j+1,hj=>cases hj
end Go.Vc
