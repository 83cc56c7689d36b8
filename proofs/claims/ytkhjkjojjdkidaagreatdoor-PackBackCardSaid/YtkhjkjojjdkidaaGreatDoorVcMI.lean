/- Regions that draw where one operation looks at an object that another one may have changed already; maps whose entries bear their places as stamps: what m[k] op= v does. -/
import Derived.Test.YtkhjkjojjdkidaaGreatDoorVcMD
import Derived.Test.YtkhjkjojjdkidaaGreatDoorVcYB
namespace Go.Vc
open Go
variable {P:Program} {B:Base} {ops:Array Oper} {E:EL} {O:OL}
theorem B0r (k:Nat) (x:Option Ob):∀ (l:List Eff) (i:Nat) (ob:Obs) (S:Nat→Bool),(∀ j α,l[j]? = some α→S (i+j)=true→look α.wo k=none∨look α.wo k=some x)→runObs S l i ob k=ob k∨runObs S l i ob k=some x
 | [],_,_,_,_ => .inl rfl
 | α :: l,i,ob,S,h=>by
  have h0:=h 0 α rfl
  have ih:=B0r k x l (i+1) (if S i then α.obs ob else ob) S fun j β hj hs=>h (j+1) β (by simpa using hj) (by rwa [show i+(j+1)=i+1+j from by omega])
  simp only [runObs]
  rcases ih with ih | ih
  ·rw [ih]
   cases hS:S i with
   | false=>exact .inl rfl
   | true =>
    rcases h0 hS with h1 | h1
    ·left;simp [Eff.obs,h1]
    ·right;simp [Eff.obs,h1]
  ·exact .inr ih
def softOk (ops:Array Oper) (effs:List Eff) (nm n j0:Nat):Bool :=
 (List.range effs.length).all fun j=>Nat.beq j j0 || (look (effs.getD j {}).wo nm).isNone || reaches ops (j+1) j n
theorem B7a {S:Nat→Bool} {effs:List Eff} {nm n j0:Nat} {s1:Ob} (hc:Closed ops S) (hs:softOk ops effs nm n j0=true) (h1:look (effs.getD j0 {}).wo nm=some (some s1)) (hS:S n=false) (ob:Obs):runObs S effs 0 ob nm=ob nm∨runObs S effs 0 ob nm=some (some s1):=by
 refine B0r nm (some s1) effs 0 ob S fun j α hj hSj => ?_
 rw [Nat.zero_add] at hSj
 have hjl:j<effs.length:=(List.getElem?_eq_some_iff.1 hj).1
 simp only [softOk,List.all_eq_true,List.mem_range] at hs
 have:=hs j hjl
 have he:effs.getD j {}=α:=by simp [List.getD,hj]
 rw [he] at this
 simp only [Bool.or_eq_true] at this
 rcases this with (h | h) | h
 ·have:=Nat.eq_of_beq_eq_true h
  subst this
  rw [he] at h1
  exact .inr h1
 ·cases hl:look α.wo nm with
  | none=>exact .inl rfl
  | some _=>rw [hl] at h;cases h
 ·have:=A32 hc _ _ _ h hSj
  rw [hS] at this;cases this
theorem AWp.draws2 {Q:Exit→EL→OL→Prop} {id:Nat} {l:List Oper} {la lc:List Eff} (n j0:Nat) {o:Oper} {nt:EL} {d nm:Nat} {v:V} {s0 s1:Ob} (hm:P.follows .mixedOrders=true) (ha:OpJs P B l.toArray (l.take n) la)
  (hA:OpJ P B l.toArray o { nt,no:=[(nm,s0)],wt:=[(d,v)] }) (hB:OpJ P B l.toArray o { nt,no:=[(nm,s1)],wt:=[(d,v)] }) (hl:OpJs P B l.toArray (l.drop (n+1)) lc) (ho:l.drop n=o :: l.drop (n+1)) (hn:la.length=n)
  (hc:noConf l.toArray (la ++ { nt,wt:=[(d,v)] } :: lc)=true) (hs:softOk l.toArray (la ++ { nt,wt:=[(d,v)] } :: lc) nm n j0=true) (h0:look O nm=some (some s0)) (h1':look ((la ++ { nt,wt:=[(d,v)] } :: lc).getD j0 {}).wo nm=some (some s1))
  (h1:wantE (la ++ { nt,wt:=[(d,v)] } :: lc) E=wantE' (la ++ { nt,wt:=[(d,v)] } :: lc)) (h2:wantO (la ++ { nt,wt:=[(d,v)] } :: lc) O=wantO' (la ++ { nt,wt:=[(d,v)] } :: lc)) (h:Q .normal (putE (la ++ { nt,wt:=[(d,v)] } :: lc) E) (putO (la ++ { nt,wt:=[(d,v)] } :: lc) O)) :
  AWp P B (.region id l.toArray true) Q E O:=fun a w σ Z s=>by
 refine wp_region_any hm ?_
 have hll:l=l.take n++o :: l.drop (n+1):=by rw [← ho];exact(List.take_append_drop n l).symm
 have hla:la.length=(l.take n).length:=ha.length
 have hlc:lc.length=(l.drop (n+1)).length:=hl.length
 have hlen:(la ++ { nt,wt:=[(d,v)] } :: lc).length=l.toArray.size:=by
  have:=congrArg List.length hll
  simp only [List.length_append,List.length_cons,List.size_toArray] at this ⊢
  omega
 refine A7w (ops:=l.toArray) (fun i ob=>i=n→ob nm=some (some s0)∨ob nm=some (some s1)) hlen (fun i o' α ho' hα => ?_) (fun i S hcl hS hi => ?_) hc (A23 _ E O h1 h2) (fun a' w' σ' Z' s'=>⟨_,_,σ',Z',h,by rw [← A3q,← A3r];exact s'⟩) _ _ (by simp) ?_ ?_ a _ σ Z ?_
 ·have ho'':l[i]? = some o':=by simpa using ho'
  rw [hll] at ho''
  rcases Nat.lt_trichotomy i n with hi | hi | hi
  ·rw [List.getElem?_append_left (by omega)] at ho'' hα
   exact(ha.get i o' α ho'' hα).toI
  ·subst hi
   rw [List.getElem?_append_right (by omega)] at ho'' hα
   rw [show i-(l.take i).length=0 from by omega] at ho''
   rw [show i-la.length=0 from by omega] at hα
   simp only [List.getElem?_cons_zero,Option.some.injEq] at ho'' hα
   subst ho'';subst hα
   intro Q env ob a w σ Z K hI sm hne hk
   rcases hI rfl with hI | hI
   ·exact hA Q env ob a w σ Z K sm ⟨hne.1,fun p hp=>by rw [List.mem_singleton.1 hp];exact hI,hne.2.2⟩ hk
   ·exact hB Q env ob a w σ Z K sm ⟨hne.1,fun p hp=>by rw [List.mem_singleton.1 hp];exact hI,hne.2.2⟩ hk
  ·obtain⟨k,rfl⟩:∃ k,i=n+1+k:=⟨i-(n+1),by omega⟩
   rw [List.getElem?_append_right (by omega)] at ho'' hα
   rw [show n+1+k-(l.take n).length=k+1 from by omega] at ho''
   rw [show n+1+k-la.length=k+1 from by omega] at hα
   simp only [List.getElem?_cons_succ] at ho'' hα
   exact(hl.get k o' α ho'' hα).toI
 ·subst hi
  have:=B7a hcl hs h1' hS (look O)
  rw [h0] at this
  exact this
 ·exact Nat.le_trans (List.length_filter_le _ _) (by simp)
 ·intro j o _ hS
  simp only [Array.getD_eq_getD_getElem?,Array.getElem?_replicate] at hS
  split at hS<;>simp at hS
 ·have hf:∀ m,(Array.replicate l.toArray.size false).getD m false=false:=fun m=>by
   simp only [Array.getD_eq_getD_getElem?,Array.getElem?_replicate]
   split<;>rfl
  rw [A29 _ _ _ _ (fun m _=>hf m),A2a _ _ _ _ (fun m _=>hf m)]
  exact s.drew
-- maps whose entries bear their places
def placed (es:List MapEntry) (clock:Nat):Prop:=clock=es.length∧es.map (·.born)=List.range es.length
theorem placed.push {es:List MapEntry} {clock:Nat} (h:placed es clock) (kv vv:Value):placed (es++[{ key:=kv,val:=vv,born:=clock }]) (clock+1):=by
 obtain⟨rfl,h⟩:=h
 refine⟨by simp,?_⟩
 rw [List.map_append,h,List.length_append]
 exact(List.range_succ ..).symm
def mapC (ps:List (D×D)):Blk where
 holds Z w b:=∃ (ents:Array MapEntry) (clock:Nat),w.heap[b]? = some (.map ents clock)∧MapL Z w ps ents.toList∧placed ents.toList clock
 move hx hb h:=by
  obtain⟨ents,clock,h1,h2,h3⟩:=h
  exact⟨ents,clock,hb.trans h1,h2.ext hx,h3⟩
 lt h:=by
  obtain⟨ents,clock,h1,_⟩:=h
  exact(Array.getElem?_eq_some_iff.1 h1).1
def kst {α β:Type} (eq:α→α→Bool) (l:List (α×β)) (k:α):Nat:=((mix eq k l).map (·.1)).getD l.length
def mtouch {α β:Type} (eq:α→α→Bool) (l:List (α×β)) (k:α) (z:β):List (α×β):=match mix eq k l with
 | some _=>l
 | none=>l++[(k,z)]
section
variable {α β:Type} {eq:α→α→Bool}
theorem A9b {k:α} {v:β} (hr:eq k k=true):∀ {l:List (α×β)},mix eq k l=none→mix eq k (l++[(k,v)])=some (l.length,v)
 | [],_=>by simp [mix,hr]
 | p :: l,h=>by
  unfold mix at h
  by_cases hc:eq k p.1=true
  ·rw [if_pos hc] at h;cases h
  ·rw [if_neg hc,Option.map_eq_none_iff] at h
   rw [List.cons_append]
   unfold mix
   rw [if_neg hc,A9b hr h]
   rfl
theorem B3g {l:List (α×β)} {k:α} {z:β} (hr:eq k k=true):(mget eq (mtouch eq l k z) k).getD z=(mget eq l k).getD z:=by
 unfold mtouch mget
 cases h:mix eq k l with
 | some q=>simp only;rw [h]
 | none=>simp only;rw [A9b hr h];rfl
theorem B3h {l:List (α×β)} {k:α} {z:β} (hr:eq k k=true):mix eq k (mtouch eq l k z)=some (kst eq l k,(mget eq l k).getD z):=by
 unfold mtouch kst mget
 cases h:mix eq k l with
 | some q=>simp only;rw [h];rfl
 | none=>simp only;rw [A9b hr h];rfl
theorem A6w {k:α} {v:β}:∀ {l:List (α×β)},mix eq k l=none→mput eq l k v=l++[(k,v)]
 | [],_=>rfl
 | p :: l,h=>by
  unfold mix at h
  by_cases hc:eq k p.1=true
  ·rw [if_pos hc] at h;cases h
  ·rw [if_neg hc,Option.map_eq_none_iff] at h
   rw [mput,if_neg hc,A6w h];rfl
theorem B0s {k:α} {v z:β} (hr:eq k k=true):∀ {l:List (α×β)},mix eq k l=none→mput eq (l++[(k,z)]) k v=l++[(k,v)]
 | [],_=>by simp [mput,hr]
 | p :: l,h=>by
  unfold mix at h
  by_cases hc:eq k p.1=true
  ·rw [if_pos hc] at h;cases h
  ·rw [if_neg hc,Option.map_eq_none_iff] at h
   rw [List.cons_append,mput,if_neg hc,B0s hr h];rfl
theorem B3i {l:List (α×β)} {k:α} {z v:β} (hr:eq k k=true):mput eq (mtouch eq l k z) k v=mput eq l k v:=by
 unfold mtouch
 cases h:mix eq k l with
 | some q=>rfl
 | none=>simp only;rw [B0s hr h,A6w h]
end
section
variable {d:Nat} {x y i:Operand} {ty:TypeId} {pos:String} {af:Array Edge} {nt nt' nt'':List (Nat×V)}
theorem OpJ.mkmapC {t:TypeId} (hB:B.ok) {nm:Nat} (hnm:1000≤nm) (hN:d<B.N) :
  OpJ P B ops ⟨some d,.makeMap t none,ty,pos,af,none⟩ { nf:=[nm],wt:=[(d,.mref nm)],wo:=[(nm,some (.blk (mapC [])))] } :=
 OpJ.run rfl rfl hN rfl fun env ob a w σ Z sm hne=>by
  have hn:ob nm=none:=hne.2.2 nm (by simp)
  have s':=sm.newObj hB hn hnm (o:=.blk (mapC [])) (c:=.map #[] 0) fun ob' σ' m hs=>⟨w.heap.size,hs,#[],0,heap_alloc_new w _,trivial,rfl,rfl⟩
  refine⟨.map (some w.heap.size),_,_,_,?_,by rw [H7 _ rfl];exact s',by rw [H7 _ rfl];exact B4b (by rw [D6];simp) (by simp [updS])⟩
  have hr:(Instr.makeMap t none).run P w = .ok (.map (some w.heap.size)) (w.alloc (.map #[] 0)):=rfl
  simp [execOp,hr]
section
variable {α β:Type} {f:α→D} {g:β→D} {eq:α→α→Bool} {kt et t:TypeId} {kd:TypeDesc} {nm:Nat} {l:List (α×β)} {k:α}
theorem B4v {env:Env} {ob:Obs} {a:Act} {w:World} {σ:Nat→Option Nat} {Z:Nat→Prop} (hu:P.underlying t=some (.map kt et)) (hk:P.underlying kt=some kd) (he:KeyEq P kt f eq) {z:β} (hz:TyZ P et (.d (g z))) (sm:Sim B env ob a w σ Z) (hob:ob nm=some (some (.blk (mapC (mpairs f g l))))) {kv mv:Value} (hm:RepT ob σ Z w mv (.mref nm)) (hkv:RepT ob σ Z w kv (.d (f k))) :
  ∃ v,DV Z w (g ((mget eq l k).getD z)) v∧(Instr.lookup t mv kv false).run P w = .ok v w:=by
 obtain⟨b,hb,rfl⟩:=A11 hm ⟨_,hob⟩
 obtain⟨b',hb',ents,clock,hw,hl,hst⟩:=sm.obj nm _ hob
 have:b'=b:=Option.some.inj (hb'.symm.trans hb)
 subst this
 obtain⟨cs,rfl,hr⟩:=O9 hkv
 obtain⟨hh,hle,hfit⟩:=he.fit
 have hc:=(hfit k k).check (w:=w) ents.isEmpty (d:=10000) hle hr
 obtain⟨r,h1,h2⟩:=A59 (w:=w) hk he ⟨cs,rfl,hr⟩ hl
 have hg:(getObj b').run P w = .ok (.map ents clock) w:=by simp [getObj,Sem.run,hw]
 have hzr:=hz.run w
 unfold mget
 cases hq:mix eq k l with
 | none =>
  rw [hq] at h2
  subst h2
  refine⟨valOf (V.d (g z)).isAgg (V.d (g z)).enc,⟨_,rfl,?_⟩,?_⟩
  ·exact(V.rep_enc (ob:=ob) (σ:=σ) (Z:=Z) (w:=w) (.d (g z)) hz.plain).1
  ·simp [Instr.lookup,run_underlying hu,hg,hc,h1,hzr]
 | some q =>
  rw [hq] at h2
  obtain⟨v,rfl,h3⟩:=h2
  refine⟨v,h3,?_⟩
  simp [Instr.lookup,run_underlying hu,hg,hc,h1]
theorem OpJ.mlookC (hu:P.underlying t=some (.map kt et)) (hk:P.underlying kt=some kd) (he:KeyEq P kt f eq) {z:β} (hz:TyZ P et (.d (g z))) (hN:d<B.N) (hx:Opd x (.mref nm) nt) (hi:Opd i (.d (f k)) nt') :
  OpJ P B ops ⟨some d,.lookup t x i false,ty,pos,af,none⟩ { nt:=nt++nt',no:=[(nm,.blk (mapC (mpairs f g l)))],wt:=[(d,.d (g ((mget eq l k).getD z)))] } :=
 OpJ.run rfl rfl hN rfl fun env ob a w σ Z sm hne=>by
  obtain⟨h1,h2⟩:=E5 hne.1
  have hob:=hne.2.1 (nm,.blk (mapC (mpairs f g l))) (by simp)
  obtain⟨v,hv,hr⟩:=B4v hu hk he hz sm hob (hx B env ob a w σ Z sm h1) (hi B env ob a w σ Z sm h2)
  refine⟨_,w,σ,Z,by simp only [execOp,Sem.run_bind,hr,Result.andThen_ok,Sem.run_pure];rfl,by rw [G0 _ rfl];exact sm,?_⟩
  rw [G0 _ rfl]
  exact DV.to hv
theorem OpJ.mlookT (hr:eq k k=true) (hu:P.underlying t=some (.map kt et)) (hk:P.underlying kt=some kd) (he:KeyEq P kt f eq) {z:β} (hz:TyZ P et (.d (g z))) (hN:d<B.N) (hx:Opd x (.mref nm) nt) (hi:Opd i (.d (f k)) nt') :
  OpJ P B ops ⟨some d,.lookup t x i false,ty,pos,af,none⟩ { nt:=nt++nt',no:=[(nm,.blk (mapC (mpairs f g (mtouch eq l k z))))],wt:=[(d,.d (g ((mget eq l k).getD z)))] }:=by
 have:=OpJ.mlookC (ops:=ops) (ty:=ty) (pos:=pos) (af:=af) (l:=mtouch eq l k z) hu hk he hz hN hx hi
 rwa [B3g hr] at this
theorem B28 {Z:Nat→Prop} {w:World} {kv:Value} (hkv:DV Z w (f k) kv) (hsame:∀ a b,eq a b=true→f a=f b):∀ {l:List (α×β)} {es:List MapEntry} {j:Nat} {b:β},MapL Z w (mpairs f g l) es→mix eq k l=some (j,b) →
  MapL Z w (mpairs f g l) (es.modify j fun e => { e with key:=kv })
 | [],es,j,b,_,h=>by simp [mix] at h
 | p :: l,e :: es,j,b,hl,h=>by
  obtain⟨⟨h1,h2⟩,h3⟩:=hl
  unfold mix at h
  by_cases hc:eq k p.1=true
  ·rw [if_pos hc] at h
   simp only [Option.some.injEq,Prod.mk.injEq] at h
   rw [← h.1]
   refine⟨⟨?_,h2⟩,h3⟩
   show DV Z w (f p.1) kv
   rw [← hsame _ _ hc];exact hkv
  ·rw [if_neg hc] at h
   cases hq:mix eq k l with
   | none=>rw [hq] at h;simp at h
   | some q =>
    rw [hq] at h
    simp only [Option.map_some,Option.some.injEq,Prod.mk.injEq] at h
    rw [← h.1,List.modify_succ_cons]
    exact⟨⟨h1,h2⟩,B28 hkv hsame h3 hq⟩
 | p :: l,[],_,_,h,_=>h.elim
theorem B29 {Z:Nat→Prop} {w:World} {v:β} {vv:Value} (hv:DV Z w (g v) vv):∀ {l:List (α×β)} {es:List MapEntry} {j:Nat} {b:β},MapL Z w (mpairs f g l) es→mix eq k l=some (j,b) →
  MapL Z w (mpairs f g (mput eq l k v)) (es.modify j fun e => { e with val:=vv })
 | [],es,j,b,_,h=>by simp [mix] at h
 | p :: l,e :: es,j,b,hl,h=>by
  obtain⟨⟨h1,h2⟩,h3⟩:=hl
  unfold mix at h
  by_cases hc:eq k p.1=true
  ·rw [if_pos hc] at h
   simp only [Option.some.injEq,Prod.mk.injEq] at h
   rw [← h.1,mput,if_pos hc]
   exact⟨⟨h1,hv⟩,h3⟩
  ·rw [if_neg hc] at h
   cases hq:mix eq k l with
   | none=>rw [hq] at h;simp at h
   | some q =>
    rw [hq] at h
    simp only [Option.map_some,Option.some.injEq,Prod.mk.injEq] at h
    rw [← h.1,List.modify_succ_cons,mput,if_neg hc]
    exact⟨⟨h1,h2⟩,B29 hv h3 hq⟩
 | p :: l,[],_,_,h,_=>h.elim
theorem B2a {φ:MapEntry→MapEntry} (hφ:∀ e,(φ e).born=e.born):∀ (es:List MapEntry) (j:Nat),(es.modify j φ).map (·.born)=es.map (·.born)
 | [],j=>by simp
 | e :: es,0=>by simp [hφ]
 | e :: es,j+1=>by simp [List.modify_succ_cons,B2a hφ es j]
theorem placed.mod {φ:MapEntry→MapEntry} (hφ:∀ e,(φ e).born=e.born) {es:List MapEntry} {clock:Nat} (h:placed es clock) (j:Nat):placed (es.modify j φ) clock:=by
 refine⟨by rw [List.length_modify];exact h.1,by rw [B2a hφ,h.2,List.length_modify]⟩
theorem B3j:∀ {l:List (α×β)} {j:Nat} {b:β},mix eq k l=some (j,b)→j<l.length
 | [],_,_,h=>by simp [mix] at h
 | p :: l,j,b,h=>by
  unfold mix at h
  by_cases hc:eq k p.1=true
  ·rw [if_pos hc] at h
   simp only [Option.some.injEq,Prod.mk.injEq] at h
   rw [← h.1];simp
  ·rw [if_neg hc] at h
   cases hq:mix eq k l with
   | none=>rw [hq] at h;simp at h
   | some q =>
    rw [hq] at h
    simp only [Option.map_some,Option.some.injEq,Prod.mk.injEq] at h
    have:=B3j hq
    rw [← h.1];simp;omega
theorem OpJ.mentC (hu:P.underlying t=some (.map kt et)) (hk:P.underlying kt=some kd) (he:KeyEq P kt f eq) {z:β} (hz:TyZ P et (.d (g z))) (hN:d<B.N) (hx:Opd x (.mref nm) nt) (hi:Opd i (.d (f k)) nt') :
  OpJ P B ops ⟨some d,.mapEntry t x i,ty,pos,af,none⟩ { nt:=nt++nt',no:=[(nm,.blk (mapC (mpairs f g l)))],wt:=[(d,.tup [.d (g ((mget eq l k).getD z)),.d (.int .i64 (kst eq l k:Int))])],wo:=[(nm,some (.blk (mapC (mpairs f g (mtouch eq l k z)))))] } :=
 OpJ.run rfl rfl hN rfl fun env ob a w σ Z sm hne=>by
  obtain⟨h1,h2⟩:=E5 hne.1
  have hob:=hne.2.1 (nm,.blk (mapC (mpairs f g l))) (by simp)
  obtain⟨b,hb,hv⟩:=A11 (hx B env ob a w σ Z sm h1) ⟨_,hob⟩
  obtain⟨b',hb',ents,clock,hw,hl,hst⟩:=sm.obj nm _ hob
  have:b'=b:=Option.some.inj (hb'.symm.trans hb)
  subst this
  have hkv:=O9 (hi B env ob a w σ Z sm h2)
  have hkd:DV Z w (f k) (a.eval i):=hkv
  obtain⟨hh,hle,hfit⟩:=he.fit
  obtain⟨cs,hcs,hr⟩:=hkv
  have hc:=(hfit k k).check (w:=w) false (d:=10000) hle hr
  rw [← hcs] at hc
  obtain⟨r,g1,g2⟩:=A59 (w:=w) hk he hkd hl
  have hg:(getObj b').run P w = .ok (.map ents clock) w:=by simp [getObj,Sem.run,hw]
  have hset:∀ o,(setObj b' o).run P w = .ok () (Vc.setBlk w b' o):=fun o=>by simp [setObj,Sem.run,hw,Vc.setBlk]
  have hlt:b'<w.heap.size:=(Array.getElem?_eq_some_iff.1 hw).1
  have hself:∀ o,(Vc.setBlk w b' o).heap[b']? = some o:=fun o=>by unfold Vc.setBlk;simp [hlt]
  have hlen:ents.size=l.length:=by have:=hl.len;simpa [mpairs] using this
  cases hq:mix eq k l with
  | none =>
   rw [hq] at g2
   subst g2
   have hzr:=hz.run w
   have e1:mtouch eq l k z=l++[(k,z)]:=by unfold mtouch;rw [hq]
   have e2:kst eq l k=clock:=by
    unfold kst;rw [hq]
    have:=hst.1
    simp at this ⊢
    omega
   have e3:(mget eq l k).getD z=z:=by unfold mget;rw [hq];rfl
   have hzd:DV Z w (g z) (valOf (V.d (g z)).isAgg (V.d (g z)).enc):=⟨_,rfl,(V.rep_enc (ob:=ob) (σ:=σ) (Z:=Z) (w:=w) (.d (g z)) hz.plain).1⟩
   have hs':Sim B env (updO ob nm (some (.blk (mapC (mpairs f g (l++[(k,z)])))))) a (Vc.setBlk w b' (.map (ents.push { key:=a.eval i,val:=valOf (V.d (g z)).isAgg (V.d (g z)).enc,born:=clock }) (clock+1))) σ Z :=
    sm.setBlk hob hb hlt (by simp [World.shape?,hself,hw]) fun ob' m=>⟨b',hb,_,_,hself _,by
     rw [Array.toList_push]
     rw [← A6w (eq:=eq) hq]
     exact A9a (hzd.ext m.ext) (hkd.ext m.ext) (hl.ext m.ext) hq,by
     rw [Array.toList_push]
     exact hst.push _ _⟩
   refine⟨.tuple #[valOf (V.d (g z)).isAgg (V.d (g z)).enc,goInt clock],Vc.setBlk w b' (.map (ents.push { key:=a.eval i,val:=valOf (V.d (g z)).isAgg (V.d (g z)).enc,born:=clock }) (clock+1)),σ,Z,?_,?_,?_⟩
   ·simp [execOp,hv,Instr.mapEntry,run_underlying hu,hg,hc,g1,hset,hzr]
   ·rw [H7 _ rfl,e1];exact hs'
   ·rw [H7 _ rfl,e1,e2,e3]
    refine⟨[_,goInt clock],rfl,?_,RepT.to (P1 _ _) rfl,trivial⟩
    exact RepT.to (DV.to ⟨_,rfl,(V.rep_enc (ob:=updO ob nm (some (.blk (mapC (mpairs f g (l++[(k,z)])))))) (σ:=σ) (Z:=Z) (.d (g z)) hz.plain).1⟩) rfl
  | some q =>
   obtain⟨j,bb⟩:=q
   rw [hq] at g2
   obtain⟨vv,rfl,hvd⟩:=g2
   obtain⟨e,he1,he2⟩:=B1i he.same hl hq
   have hj:ents[j]? = some e:=by simpa using he1
   have hs:=stays (w:=w) (hfit k k) he2 hkd
   have e1:mtouch eq l k z=l:=by unfold mtouch;rw [hq]
   have e2:kst eq l k=j:=by unfold kst;rw [hq];rfl
   have e3:(mget eq l k).getD z=bb:=by unfold mget;rw [hq];rfl
   have hborn:e.born=j:=by
    have h5:(ents.toList.map (·.born))[j]? = some e.born:=by simp [hj]
    rw [hst.2] at h5
    have h6:j<ents.toList.length:=by have:=B3j hq;simp;omega
    rw [List.getElem?_range h6] at h5
    exact(Option.some.inj h5).symm
   have hs':Sim B env (updO ob nm (some (.blk (mapC (mpairs f g l))))) a (Vc.setBlk w b' (.map (ents.modify j fun e => { e with key:=a.eval i }) clock)) σ Z :=
    sm.setBlk hob hb hlt (by simp [World.shape?,hself,hw]) fun ob' m=>⟨b',hb,_,_,hself _,by
     rw [Array.toList_modify]
     exact B28 (hkd.ext m.ext) he.same (hl.ext m.ext) hq,by
     rw [Array.toList_modify]
     exact hst.mod (φ:=fun e => { e with key:=a.eval i }) (fun _=>rfl) j⟩
   refine⟨.tuple #[vv,goInt j],Vc.setBlk w b' (.map (ents.modify j fun e => { e with key:=a.eval i }) clock),σ,Z,?_,?_,?_⟩
   ·simp [execOp,hv,Instr.mapEntry,run_underlying hu,hg,hc,g1,hset,hj,hs,hborn]
   ·rw [H7 _ rfl,e1];exact hs'
   ·rw [H7 _ rfl,e1,e2,e3]
    refine⟨[vv,goInt j],rfl,?_,RepT.to (P1 _ _) rfl,trivial⟩
    have hx:Ext Z Z w (Vc.setBlk w b' (.map (ents.modify j fun e => { e with key:=a.eval i }) clock)) :=
     ⟨fun _ h=>h,fun k h=>by unfold Vc.setBlk;simp [show b'≠k from fun e=>(sm.blk nm b' ⟨_,hob⟩ hb).1 (e ▸ h)]⟩
    exact RepT.to (DV.to (hvd.ext hx)) rfl
theorem B4w {es:List MapEntry} (h:es.map (·.born)=List.range es.length) {j:Nat} (hj:j<es.length):es.findIdx? (fun e=>(e.born:Int)==(j:Int))=some j:=by
 have hb:∀ (i:Nat) (hi:i<es.length),es[i].born=i:=fun i hi=>by
  have h5:(es.map (·.born))[i]? = some es[i].born:=by simp [hi]
  rw [h,List.getElem?_range hi] at h5
  exact(Option.some.inj h5).symm
 rw [List.findIdx?_eq_some_iff_getElem]
 refine⟨hj,by simp [hb j hj],fun i hi => ?_⟩
 have:=hb i (by omega)
 simp [this];omega
theorem OpJ.mestore (hr:eq k k=true) {z v:β} (hx:Opd x (.mref nm) nt) (hi:Opd i (.d (.int .i64 (kst eq l k:Int))) nt') (hy:Opd y (.d (g v)) nt'') :
  OpJ P B ops ⟨none,.entryStore t x i y,ty,pos,af,none⟩ { nt:=nt++(nt'++nt''),no:=[(nm,.blk (mapC (mpairs f g (mtouch eq l k z))))],wo:=[(nm,some (.blk (mapC (mpairs f g (Vc.mput eq l k v)))))] } :=
 OpJ.run0 rfl rfl rfl fun env ob a w σ Z sm hne=>by
  obtain⟨h1,h2⟩:=E5 hne.1
  obtain⟨h2,h3⟩:=E5 h2
  have hob:=hne.2.1 (nm,.blk (mapC (mpairs f g (mtouch eq l k z)))) (by simp)
  obtain⟨b,hb,hv⟩:=A11 (hx B env ob a w σ Z sm h1) ⟨_,hob⟩
  obtain⟨b',hb',ents,clock,hw,hl,hst⟩:=sm.obj nm _ hob
  have:b'=b:=Option.some.inj (hb'.symm.trans hb)
  subst this
  have hst':=J7 (hi B env ob a w σ Z sm h2)
  have hyd:DV Z w (g v) (a.eval y):=O9 (hy B env ob a w σ Z sm h3)
  have hq:=B3h (l:=l) (z:=z) hr
  have hg:(getObj b').run P w = .ok (.map ents clock) w:=by simp [getObj,Sem.run,hw]
  have hset:∀ o,(setObj b' o).run P w = .ok () (Vc.setBlk w b' o):=fun o=>by simp [setObj,Sem.run,hw,Vc.setBlk]
  have hlt:b'<w.heap.size:=(Array.getElem?_eq_some_iff.1 hw).1
  have hself:∀ o,(Vc.setBlk w b' o).heap[b']? = some o:=fun o=>by unfold Vc.setBlk;simp [hlt]
  have hlen:ents.size=(mtouch eq l k z).length:=by have:=hl.len;simpa [mpairs] using this
  have hf:ents.findIdx? (fun e=>(e.born:Int)==(kst eq l k:Int))=some (kst eq l k):=by
   have:=B4w hst.2 (j:=kst eq l k) (by have:=B3j hq;simp;omega)
   have h6:=List.findIdx?_toArray (fun e:MapEntry=>(e.born:Int)==(kst eq l k:Int)) ents.toList
   simp only [Array.toArray_toList] at h6
   rw [h6];exact this
  refine⟨Vc.setBlk w b' (.map (ents.modify (kst eq l k) fun e => { e with val:=a.eval y }) clock),σ,Z,.inl ?_,?_⟩
  ·have hai:(asInt (Value.int IntKind.i64 (kst eq l k:Int))).run P w = .ok (kst eq l k:Int) w:=rfl
   simp [execOp,hv,hst',Instr.entryStore,hg,hai,hf,hset]
  ·rw [H7 _ rfl]
   refine sm.setBlk hob hb hlt (by simp [World.shape?,hself,hw]) fun ob' m=>⟨b',hb,_,_,hself _,?_,?_⟩
   ·rw [Array.toList_modify,← B3i (z:=z) hr]
    exact B29 (hyd.ext m.ext) (hl.ext m.ext) hq
   ·rw [Array.toList_modify]
    exact hst.mod (φ:=fun e => { e with val:=a.eval y }) (fun _=>rfl) _
theorem OpJ.mlenC {ps:List (D×D)} (hu:P.underlying t=some (.map kt et)) (hN:d<B.N) (hx:Opd x (.mref nm) nt) :
  OpJ P B ops ⟨some d,.call { callee:=.builtin .len,args:=#[x],argTypes:=#[t] },ty,pos,af,none⟩ { nt,no:=[(nm,.blk (mapC ps))],wt:=[(d,.d (.int .i64 (ps.length:Int)))] } :=
 OpJ.run rfl rfl hN rfl fun env ob a w σ Z sm hne=>by
  have hob:=hne.2.1 (nm,.blk (mapC ps)) (by simp)
  obtain⟨b,hb,hv⟩:=A11 (hx B env ob a w σ Z sm hne.1) ⟨_,hob⟩
  obtain⟨b',hb',ents,clock,hw,hl,hst⟩:=sm.obj nm _ hob
  have:b'=b:=Option.some.inj (hb'.symm.trans hb)
  subst this
  have hg:(getObj b').run P w = .ok (.map ents clock) w:=by simp [getObj,Sem.run,hw]
  have hlen:ents.size=ps.length:=by have:=hl.len;simpa using this
  refine⟨.int .i64 (ps.length:Int),w,σ,Z,?_,by rw [G0 _ rfl];exact sm,P1 _ _⟩
  simp [execOp,resolve,invoke,builtin,hv,Builtin.len_,run_underlying hu,hg,hlen,goInt]
end
end
end Go.Vc
