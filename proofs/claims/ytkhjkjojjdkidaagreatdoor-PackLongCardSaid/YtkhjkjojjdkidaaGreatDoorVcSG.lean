/- slices.SortFunc on a row of structs, with a comparator that is met by a contract. -/
import Derived.Test.YtkhjkjojjdkidaaGreatDoorVcDr
import Derived.Test.YtkhjkjojjdkidaaGreatDoorVcU
import Derived.Shelf.SlSortCmp.InsertionK
import Derived.Sort.AssemblyPlain
import Derived.Lib.BitFns
namespace Go.Vc
open Go Go.Sort Go.Proofs
variable {P:Program}
mutual
/-- a value that names no object -/
def V.noob:V→Bool
 | .junk=>true
 | .d _=>true
 | .nils=>true
 | .dptr _=>true
 | .func _ caps=>V.noobL caps
 | .st fs=>V.noobL fs
 | _=>false
def V.noobL:List V→Bool
 | []=>true
 | f :: fs=>V.noob f&&V.noobL fs
end
section
variable {ob ob':Obs} {σ σ':Nat→Option Nat} {Z Z':Nat→Prop} {w w':World}
mutual
theorem V.rep_noob (hx:Ext Z Z' w w'):∀ (x:V) (cs:List Value),V.noob x=true→V.rep ob σ Z w x cs→V.rep ob' σ' Z' w' x cs
 | .junk,_,_,_=>trivial
 | .d x,cs,_,h=>D.rep_ext hx x cs h
 | .nils,_,_,h=>h
 | .dptr x,cs,_,h=>by
  obtain⟨b,o,xs,h1,h2,h3,h4⟩:=h
  exact⟨b,o,xs,h1,hx.sub b h2,h3.of_block (hx.same b h2),D.rep_ext hx x xs h4⟩
 | .func f caps,cs,hp,h=>by
  obtain⟨cvs,h1,h2⟩:=h
  exact⟨cvs,h1,V.repL_noob hx caps cvs hp h2⟩
 | .st fs,cs,hp,h=>V.repS_noob hx fs cs hp h
 | .ptr ..,_,hp,_=>by simp [V.noob] at hp
 | .mref ..,_,hp,_=>by simp [V.noob] at hp
 | .full ..,_,hp,_=>by simp [V.noob] at hp
 | .sref ..,_,hp,_=>by simp [V.noob] at hp
 | .tup _,_,_,h=>h.elim
 | .opt ..,_,_,h=>h.elim
theorem V.repL_noob (hx:Ext Z Z' w w'):∀ (xs:List V) (cs:List Value),V.noobL xs=true→V.repL ob σ Z w xs cs→V.repL ob' σ' Z' w' xs cs
 | [],_,_,h=>h
 | x :: xs,cs,hp,h=>by
  simp only [V.noobL,Bool.and_eq_true] at hp
  obtain⟨c,r,h1,h0,h2,h3⟩:=h
  exact⟨c,r,h1,h0,V.rep_noob hx x [c] hp.1 h2,V.repL_noob hx xs r hp.2 h3⟩
theorem V.repS_noob (hx:Ext Z Z' w w'):∀ (xs:List V) (cs:List Value),V.noobL xs=true→V.repS ob σ Z w xs cs→V.repS ob' σ' Z' w' xs cs
 | [],_,_,h=>h
 | x :: xs,cs,hp,h=>by
  simp only [V.noobL,Bool.and_eq_true] at hp
  obtain⟨c1,c2,h1,h2,h3,h4,h5⟩:=h
  exact⟨c1,c2,h1,h2,h3,V.rep_noob hx x c1 hp.1 h4,V.repS_noob hx xs c2 hp.2 h5⟩
end
theorem V.repL_args:∀ (xs:List V) (cs:List Value),V.noobL xs=true→xs.all (fun x => !x.isAgg)=true→V.repL ob σ Z w xs cs→RepVs ob σ Z w cs xs
 | [],cs,_,_,h=>by
  have:cs=[]:=h
  subst this;trivial
 | x :: xs,cs,hp,ha,h=>by
  simp only [V.noobL,Bool.and_eq_true] at hp
  simp only [List.all_cons,Bool.and_eq_true] at ha
  obtain⟨c,r,h1,h0,h2,h3⟩:=h
  subst h1
  refine⟨?_,V.repL_args xs r hp.2 ha.2 h3⟩
  unfold RepV
  rw [if_neg (by simpa using ha.1)]
  exact⟨h2,.inr h0⟩
end
theorem Post.grown {W w':World} {σ σ':Nat→Option Nat} {Z Z':Nat→Prop} {res:V} {cv:Value} (h:Post (obOf []) W σ Z res [] cv w' σ' Z') (hd:W.drawn≤w'.drawn) :
  ∃ q os,w'=grow (W.drewN q) os:=by
 refine⟨w'.drawn-W.drawn,w'.heap.extract W.heap.size w'.heap.size,?_⟩
 have hh:w'.heap=W.heap++w'.heap.extract W.heap.size w'.heap.size:=by
  refine Array.ext_getElem? fun k => ?_
  by_cases hk:k<W.heap.size
  ·rw [Array.getElem?_append_left hk]
   exact h.block k hk fun⟨m,⟨o,hm⟩,_⟩=>by simp [obOf,look] at hm
  ·rw [Array.getElem?_append_right (by omega),Array.getElem?_extract]
   have:=h.size
   by_cases hk':k<w'.heap.size
   ·rw [if_pos (by omega)]
    congr 1
    omega
   ·rw [Array.getElem?_eq_none (by omega),if_neg (by omega)]
 have h1:=h.os;have h2:=h.tape;have h3:=h.output
 obtain⟨a1,a2,a3,a4,a5⟩:=w'
 obtain⟨b1,b2,b3,b4,b5⟩:=W
 simp only [grow,World.drewN] at *
 subst h1;subst h2;subst h3
 congr 1
 omega
theorem A3w {Z:Nat→Prop} {w:World} {sz:Nat}:∀ (ds:List D) (cs:List Value),(∀ x∈ds,x.sz=sz)→D.repL Z w ds cs →
  ∃ enc:_root_.Fin ds.length→List Value,(∀ i,D.rep Z w ds[i] (enc i))∧(∀ i,(enc i).length=sz)∧cs=(List.ofFn enc).flatten
 | [],cs,_,h=>⟨fun i=>[],fun i=>i.elim0,fun i=>i.elim0,h⟩
 | d :: ds,cs,hs,h=>by
  obtain⟨c1,c2,h1,h2,h3⟩:=h
  obtain⟨enc,e1,e2,e3⟩:=A3w ds c2 (fun x hx=>hs x (List.mem_cons_of_mem _ hx)) h3
  refine⟨fun i=>_root_.Fin.cases c1 enc i,fun i => ?_,fun i => ?_,?_⟩
  ·refine _root_.Fin.cases ?_ (fun j => ?_) i
   ·exact h2
   ·exact e1 j
  ·refine _root_.Fin.cases ?_ (fun j => ?_) i
   ·exact(D.rep_len d c1 h2).trans (hs d List.mem_cons_self)
   ·exact e2 j
  ·rw [h1,e3]
   simp [List.ofFn_succ]
theorem A9r {Z:Nat→Prop} {w:World} {ds:List D} {enc:_root_.Fin ds.length→List Value} (h:∀ i,D.rep Z w ds[i] (enc i)):∀ p:List (_root_.Fin ds.length),D.repL Z w (p.map fun i=>ds[i]) (p.flatMap enc)
 | []=>rfl
 | i :: p=>⟨enc i,p.flatMap enc,by simp,h i,A9r h p⟩
theorem A78 {α:Type} {enc:α→List Value} {k:Nat} (hk:∀ x,(enc x).length=k):∀ (l:List α) (t:Nat),t<l.length*k→(l.flatMap enc)[t]? = (l[t / k]?).bind fun x=>(enc x)[t % k]?
 | [],t,h=>by simp at h
 | x :: l,t,h=>by
  have k0:0<k:=by
   rcases Nat.eq_zero_or_pos k with h0 | h0
   ·subst h0;simp at h
   ·exact h0
  rw [List.flatMap_cons]
  by_cases ht:t<k
  ·rw [List.getElem?_append_left (by rw [hk];exact ht),Nat.div_eq_of_lt ht,Nat.mod_eq_of_lt ht];rfl
  ·have ht':k≤t:=by omega
   rw [List.getElem?_append_right (by rw [hk];exact ht'),hk,A78 hk l (t-k) (by simp only [List.length_cons,Nat.add_mul,Nat.one_mul] at h;omega)]
   have e:t / k=(t-k) / k+1:=by
    conv=>lhs;rw [show t=(t-k)+k from by omega,Nat.add_div_right _ k0]
   have e2:t % k=(t-k) % k:=by
    conv=>lhs;rw [show t=(t-k)+k from by omega,Nat.add_mod_right]
   rw [e,e2,List.getElem?_cons_succ]
theorem A79 {α:Type} {enc:α→List Value} {k:Nat} (hk:∀ x,(enc x).length=k) (l:List α):(l.flatMap enc).length=l.length*k:=by
 induction l with
 | nil=>simp
 | cons x l ih=>rw [List.flatMap_cons,List.length_append,ih,hk,List.length_cons,Nat.add_mul,Nat.one_mul,Nat.add_comm]
theorem A8k {α:Type} [Inhabited α] {enc:α→List Value} {k:Nat} (hk:∀ x,(enc x).length=k) (d:Array α):(flatK enc k d).toList=d.toList.flatMap enc:=by
 refine List.ext_getElem? fun t => ?_
 by_cases ht:t<d.size*k
 ·rw [A78 hk _ _ (by simpa using ht)]
  have k0:0<k:=by
   rcases Nat.eq_zero_or_pos k with h0 | h0
   ·subst h0;simp at ht
   ·exact h0
  have hq:t / k<d.size:=Nat.div_lt_of_lt_mul (by rwa [Nat.mul_comm] at ht)
  have h1:=get_flatK enc k d t ht
  rw [getElem!_pos _ t (by simpa using ht)] at h1
  rw [Array.getElem?_toList,Array.getElem?_eq_getElem (by simpa using ht),h1,Array.getElem?_toList,Array.getElem?_eq_getElem hq,Option.bind_some]
  have hm:t % k<(enc d[t / k]).length:=by rw [hk];exact Nat.mod_lt _ k0
  rw [getElem!_pos d (t / k) hq,getElem!_pos (enc d[t / k]) (t % k) hm,List.getElem?_eq_getElem hm]
 ·rw [List.getElem?_eq_none (by simpa using (by omega:d.size*k≤t)),List.getElem?_eq_none (by rw [A79 hk];simpa using (by omega:d.size*k≤t))]
structure SortOk (P:Program) (f:FuncId) (k:Nat):Prop where
 some:∀ {α:Type} [Inhabited α] (enc:α→List Value),(∀ x,(enc x).length=k)→(∀ x,∀ v∈enc x,v.oneCell'=true)→∀ (cf:α→α→Int),SWO (ltOf cf)→∀ (g:Nat) (cb:Array Value) (blk off cap:Nat) (d:Array α) (w:World),
  (∀ args w,(callFunc g args).run P w = .ok (.enter g args) w)→CmpLays P g cb enc k cf blk off d.size w→HoldsK enc k w blk off d→blk<w.heap.size→d.size<4611686018427387904 →
  Calls P f #[.slice (some ⟨blk,off,none⟩) d.size cap,.func (.func g) #[] cb] w fun e w'=>e = .returned (.tuple #[])∧∃ n os,w'=sortWorldK enc k w blk off n (pdq (ltOf cf) d 0 d.size (Lib.bitLen d.size) true true) os
 none:∀ (p:Option Addr) (cap:Nat) (fv:Value) (w:World),Calls P f #[.slice p 0 cap,fv] w fun e w'=>e = .returned (.tuple #[])∧w'=w
noncomputable def sortIx (n:Nat) (cf:_root_.Fin n→_root_.Fin n→Int):List (_root_.Fin n) :=
 if h:0<n then
  let _:Inhabited (_root_.Fin n):=⟨⟨0,h⟩⟩
  (pdq (ltOf cf) (Array.ofFn id) 0 n (Lib.bitLen n) true true).toList
 else []
theorem A8l {n:Nat} {cf:_root_.Fin n→_root_.Fin n→Int} (h:0<n):sortIx n cf=(@pdq _ ⟨⟨0,h⟩⟩ (ltOf cf) (Array.ofFn id) 0 n (Lib.bitLen n) true true).toList:=by
 unfold sortIx
 rw [dif_pos h]
theorem A7a {α:Type} (d:Array α) (k:Nat) (h:d.size=k):d.extract 0 k=d:=by subst h;exact Array.extract_size
theorem A6m {n:Nat} {cf:_root_.Fin n→_root_.Fin n→Int} (hO:SWO (ltOf cf)):(sortIx n cf).length=n∧(sortIx n cf).Perm (List.ofFn id)∧(sortIx n cf).Pairwise fun i j=>ltOf cf j i=false:=by
 by_cases h:0<n
 ·rw [A8l h]
  letI inh:Inhabited (_root_.Fin n):=⟨⟨0,h⟩⟩
  have hs:(Array.ofFn (id:_root_.Fin n→_root_.Fin n)).size=n:=by simp
  obtain⟨⟨p1,p2,p3⟩,q⟩:=pdq_sorts (ltOf cf) hO (Array.ofFn id) 0 n (Lib.bitLen n) true true (Nat.zero_le _) (by rw [hs];exact Nat.le_refl _) (Or.inl rfl)
  generalize pdq (ltOf cf) (Array.ofFn id) 0 n (Lib.bitLen n) true true=d at p1 p2 p3 q ⊢
  rw [hs] at p1
  refine⟨by simp [p1],?_,?_⟩
  ·have e1:d.extract 0 n=d:=A7a d n p1
   have e2:(Array.ofFn (id:_root_.Fin n→_root_.Fin n)).extract 0 n=Array.ofFn id:=A7a _ n hs
   rw [e1,e2] at p3
   simpa using p3
  ·rw [List.pairwise_iff_getElem]
   intro i j hi hj hij
   have hi':i<d.size:=by simpa using hi
   have hj':j<d.size:=by simpa using hj
   have:=q i j (Nat.zero_le _) hij (by omega)
   rw [getElem!_pos d j hj',getElem!_pos d i hi'] at this
   simpa using this
 ·have:n=0:=by omega
  subst this
  unfold sortIx
  simp
theorem AC.sortFn {f g:FuncId} {e:TypeId} {sz:Nat} {ds:List D} {caps:List V} (cf:_root_.Fin ds.length→_root_.Fin ds.length→Int) (hS:SortOk P f sz) (hg:FnOk P g) (hag:∀ x∈ds,x.isAgg=true) (hcp:V.noobL caps=true)
  (hca:caps.all (fun x => !x.isAgg)=true) (hO:SWO (ltOf cf)) (hn:ds.length<4611686018427387904) (hc:∀ i j,AC P g ([.d ds[i],.d ds[j]]++caps) [] (.d (.int .i64 (cf i j))) []) :
  AC P f [.sref 0 sz 0 ds.length,.func g caps] [(0,.row e sz ds)] (.tup []) [(0,some (.row e sz ((sortIx ds.length cf).map fun i=>ds[i])))]:=by
 intro w σ Z cargs pre
 have hlv:live (obOf [(0,Ob.row e sz ds)]) 0:=⟨_,rfl⟩
 have hob:=pre.obj 0 _ (rfl:obOf [(0,Ob.row e sz ds)] 0=some (some (.row e sz ds)))
 obtain⟨hlen,hperm,_⟩:=A6m hO
 have hn0:∀ n o,look [(0,some (Ob.row e sz ((sortIx ds.length cf).map fun i=>ds[i])))] n=some (some o)→n=0∧o = .row e sz ((sortIx ds.length cf).map fun i=>ds[i]):=fun n o h=>by
  rw [F0] at h
  split at h
  ·rename_i hn;cases h;exact⟨hn.symm,rfl⟩
  ·simp [look] at h
 match cargs,pre.args with
 | [v,v2],⟨ha,ha2,_⟩ =>
  have hr:V.rep (obOf [(0,Ob.row e sz ds)]) σ Z w (.sref 0 sz 0 ds.length) [v]:=And.left ha
  obtain⟨_,hr⟩:=hr
  obtain⟨ad,c,hv,hc1,hc2,hd⟩:=hr hlv
  have hv:v = .slice ad ds.length c:=by simpa using hv
  subst hv
  have hr2:V.rep (obOf [(0,Ob.row e sz ds)]) σ Z w (.func g caps) [v2]:=And.left ha2
  obtain⟨cvs,hv2,hcaps⟩:=hr2
  have hv2:v2 = .func (.func g) #[] cvs.toArray:=by simpa using hv2
  subst hv2
  by_cases hx:ds.length=0
  ·have hx':ds=[]:=List.eq_nil_of_length_eq_zero hx
   have hy:(sortIx ds.length cf).map (fun i=>ds[i])=[]:=List.eq_nil_of_length_eq_zero (by simp [hlen,hx])
   have hcall:Calls P f #[.slice ad ds.length c,.func (.func g) #[] cvs.toArray] w fun e w'=>e = .returned (.tuple #[])∧w'=w:=by rw [hx];exact hS.none ad c (.func (.func g) #[] cvs.toArray) w
   refine hcall.mono fun ex w' ⟨he,hw⟩ => ?_
   subst he;subst hw
   refine⟨_,σ,Z,rfl,⟨⟨[],rfl,trivial⟩,fun n o hn => ?_,fun n m b hn hm _ _ => ?_,fun _ _ _ _=>rfl,fun _ _ _ _ _ _=>rfl,fun n b hn hb => ?_,pre.zlt,fun _ h=>h,fun _ h => .inl h,rfl,rfl,rfl,Nat.le_refl _,fun _ _ _=>rfl⟩⟩
   ·obtain⟨rfl,rfl⟩:=hn0 n o hn
    rw [hy]
    rw [hx'] at hob
    exact hob
   ·obtain⟨o,ho⟩:=hn;obtain⟨o',ho'⟩:=hm
    rw [(hn0 n o ho).1,(hn0 m o' ho').1]
   ·obtain⟨o,ho⟩:=hn
    obtain⟨rfl,_⟩:=hn0 n o ho
    exact⟨pre.blk 0 b hlv hb,.inr ⟨0,hlv,hb⟩⟩
  ·have hpos:0<ds.length:=by omega
   rcases hd with ⟨_,_,_,k4⟩ | ⟨b,e',hb,hab,_,_⟩
   ·omega
   ·have had:ad=some ⟨b,0,none⟩:=by
     rcases hab with h | h
     ·omega
     ·simpa using h
    subst had
    obtain⟨cur,cap,cs,m1,m2,m3,m4,m5,m6,m7⟩:=Ob.row_cells hob hb
    have hsz0:0<sz:=hob.1
    obtain⟨enc,e1,e2,e3⟩:=A3w ds cs hob.2.1 m5
    letI inh:Inhabited (_root_.Fin ds.length):=⟨⟨0,hpos⟩⟩
    have hblt:b<w.heap.size:=(Array.getElem?_eq_some_iff.1 m1).1
    have hz:∀ q,Z q→q≠b:=fun q hq e=>pre.blk 0 b hlv hb (e ▸ hq)
    have hone:∀ x,∀ v∈enc x,v.oneCell'=true:=fun x=>D.rep_one _ _ (e1 x)
    have hofn:(Array.ofFn (id:_root_.Fin ds.length→_root_.Fin ds.length)).toList.flatMap enc=cs:=by
     rw [e3,List.flatMap_def,Array.toList_ofFn,List.map_ofFn];rfl
    have hsz1:(Array.ofFn (id:_root_.Fin ds.length→_root_.Fin ds.length)).size=ds.length:=by simp
    have hF:(flatK enc sz (Array.ofFn (id:_root_.Fin ds.length→_root_.Fin ds.length))).toList=cs:=(A8k e2 _).trans hofn
    have hH:HoldsK enc sz w b 0 (Array.ofFn (id:_root_.Fin ds.length→_root_.Fin ds.length)):=fun j hj=>by
     have hj':j<ds.length*sz:=by simpa using hj
     refine⟨?_,by simp [World.frozen?,m1]⟩
     rw [Nat.zero_add,cell_of_row w b j cur e (0,0) m1]
     have h1:=congrArg (fun l=>l[j]?) m7
     simp only [List.getElem?_take,if_pos hj'] at h1
     have h2:=congrArg (fun l=>l[j]?) hF
     simp only [Array.getElem?_toList,Array.getElem?_eq_getElem hj] at h2
     rw [← Array.getElem?_toList,h1,← h2,getElem!_pos _ j hj];rfl
    have hheap:∀ (m:Nat) (dk:Array (_root_.Fin ds.length)) (os:Array Obj),(sortWorldK enc sz w b 0 m dk os).heap=w.heap.modify b (onCells (putCells id 0 (flatK enc sz dk)))++os:=fun _ _ _=>rfl
    have hsame:∀ (m:Nat) (dk:Array (_root_.Fin ds.length)) (os:Array Obj) (q:Nat),q<w.heap.size→q≠b→(sortWorldK enc sz w b 0 m dk os).heap[q]? = w.heap[q]? :=fun m dk os q hq hne=>by
     rw [hheap,Array.getElem?_append_left (by simpa using hq),Array.getElem?_modify,if_neg (Ne.symm hne)]
    have hext:∀ (m:Nat) (dk:Array (_root_.Fin ds.length)) (os:Array Obj),Ext Z Z w (sortWorldK enc sz w b 0 m dk os):=fun m dk os=>⟨fun _ h=>h,fun q hq=>hsame m dk os q (pre.zlt q hq) (hz q hq)⟩
    have hsize:∀ (m:Nat) (dk:Array (_root_.Fin ds.length)) (os:Array Obj),w.heap.size≤(sortWorldK enc sz w b 0 m dk os).heap.size:=fun m dk os=>by rw [hheap];simp
    have hcmp:CmpLays P g cvs.toArray enc sz cf b 0 (Array.ofFn (id:_root_.Fin ds.length→_root_.Fin ds.length)).size w:=fun m os dk _ i j=>by
     have pre2:Pre (obOf []) (sortWorldK enc sz w b 0 m dk os) σ Z ([.d ds[i],.d ds[j]]++caps) ([.agg (enc i).toArray,.agg (enc j).toArray]++cvs):=by
      refine⟨⟨?_,?_,?_⟩,fun n o h=>by simp [obOf,look] at h,fun n m b ⟨o,h⟩=>by simp [obOf,look] at h,fun n b ⟨o,h⟩=>by simp [obOf,look] at h,fun q hq=>Nat.lt_of_lt_of_le (pre.zlt q hq) (hsize m dk os)⟩
      ·have:=hag ds[i] (List.getElem_mem _)
       unfold RepV
       rw [if_pos (by exact this)]
       exact⟨enc i,rfl,D.rep_ext (hext m dk os) _ _ (e1 i)⟩
      ·have:=hag ds[j] (List.getElem_mem _)
       unfold RepV
       rw [if_pos (by exact this)]
       exact⟨enc j,rfl,D.rep_ext (hext m dk os) _ _ (e1 j)⟩
      ·exact V.repL_args caps cvs hcp hca (V.repL_noob (hext m dk os) caps cvs hcp hcaps)
     have hcl:=hc i j _ _ _ _ pre2
     have ea:(#[.agg (enc i).toArray,.agg (enc j).toArray]++cvs.toArray:Array Value)=([.agg (enc i).toArray,.agg (enc j).toArray]++cvs:List Value).toArray:=by simp
     rw [ea]
     refine(Calls.drawn hcl).mono fun ex w' ⟨⟨cv,σ',Z',he,hp⟩,hdr⟩ => ?_
     have hcv:cv = .int .i64 (cf i j):=K9 hp.res
     subst hcv
     exact⟨he,hp.grown (hdr _ he)⟩
    have hcall:=hS.some enc e2 hone cf hO g cvs.toArray b 0 c (Array.ofFn (id:_root_.Fin ds.length→_root_.Fin ds.length)) w (fun args w=>hg.run args w) hcmp hH hblt (by rw [hsz1];exact hn)
    rw [hsz1] at hcall
    refine hcall.mono fun ex w' ⟨he,n,os,hw'⟩ => ?_
    subst he
    have hdr:(pdq (ltOf cf) (Array.ofFn id) 0 ds.length (Lib.bitLen ds.length) true true).toList=sortIx ds.length cf:=(A8l hpos).symm
    generalize pdq (ltOf cf) (Array.ofFn id) 0 ds.length (Lib.bitLen ds.length) true true=dr at hdr hw'
    have hdrs:dr.size=ds.length:=by rw [← Array.length_toList,hdr,hlen]
    have hFl:(flatK enc sz dr).toList=(sortIx ds.length cf).flatMap enc:=by rw [A8k e2,hdr]
    have hFs:(flatK enc sz dr).size=ds.length*sz:=by rw [size_flatK,hdrs]
    subst hw'
    have hcl2:ds.length*sz≤cur.size:=by rw [m2];exact Nat.mul_le_mul_right _ m3
    have k1:(sortWorldK enc sz w b 0 n dr os).heap[b]? = some (.cells (putCells id 0 (flatK enc sz dr) cur) e (0,0)):=by
     rw [hheap,Array.getElem?_append_left (by simpa using hblt),Array.getElem?_modify,if_pos rfl,m1];rfl
    have k3:(putCells id 0 (flatK enc sz dr) cur).toList.take (ds.length*sz)=(sortIx ds.length cf).flatMap enc:=by
     rw [← hFl]
     refine List.ext_getElem? fun j => ?_
     rw [List.getElem?_take]
     by_cases hj:j<ds.length*sz
     ·rw [if_pos hj,Array.getElem?_toList,putCells,Array.getElem?_mapIdx,Array.getElem?_eq_getElem (by omega),Option.map_some,if_pos ⟨Nat.zero_le _,by rw [hFs];omega⟩]
      rw [Array.getElem?_toList,Array.getElem?_eq_getElem (by omega:j<(flatK enc sz dr).size)]
      simp [getElem!_pos,hFs,hj]
     ·rw [if_neg hj,List.getElem?_eq_none (by rw [Array.length_toList,hFs];omega)]
    refine⟨_,σ,Z,rfl,⟨⟨[],rfl,trivial⟩,fun n o hn => ?_,fun n m b hn hm _ _ => ?_,fun _ _ _ _=>rfl,fun n q _ hl _ hq => ?_,fun n q hn hq => ?_,fun q hq=>Nat.lt_of_lt_of_le (pre.zlt q hq) (hsize _ _ _),fun _ h=>h,fun _ h => .inl h,rfl,rfl,rfl,hsize _ _ _,fun q hq hno => ?_⟩⟩
    ·obtain⟨rfl,rfl⟩:=hn0 n o hn
     refine⟨hsz0,fun y hy => ?_,.slice (some ⟨b,0,none⟩) ((sortIx ds.length cf).map fun i=>ds[i]).length cap,(sortIx ds.length cf).flatMap enc,⟨?_,.inr ⟨b,cap,_,rfl,Nat.zero_le _,k1,?_,by simpa [maxLen] using m4,?_,?_⟩⟩,?_,?_,fun h => ?_⟩
     ·obtain⟨i,_,rfl⟩:=List.mem_map.1 hy;exact hob.2.1 _ (List.getElem_mem _)
     ·rw [A79 e2,List.length_map]
     ·rw [List.length_map,hlen];exact m3
     ·rw [show(putCells id 0 (flatK enc sz dr) cur).size=cur.size by simp [putCells]];exact m2
     ·rw [List.length_map,hlen];exact k3
     ·exact D.repL_ext (hext _ _ _) _ _ (A9r e1 _)
     ·exact hb.symm
     ·rw [hb] at h;cases h
    ·obtain⟨o,ho⟩:=hn;obtain⟨o',ho'⟩:=hm
     rw [(hn0 n o ho).1,(hn0 m o' ho').1]
    ·obtain⟨o,ho⟩:=hl
     have hn:n=0:=by
      simp only [obOf,Option.map_eq_some_iff] at ho
      obtain⟨o',h1,_⟩:=ho
      rw [F0] at h1
      split at h1
      ·rename_i h;exact h.symm
      ·simp [look] at h1
     subst hn
     have:q=b:=Option.some.inj (hq.symm.trans hb)
     subst this
     simp only [World.shape?,m1,k1]
     simp [putCells]
    ·obtain⟨o,ho⟩:=hn
     obtain⟨rfl,_⟩:=hn0 n o ho
     exact⟨pre.blk 0 q hlv hq,.inr ⟨0,hlv,hq⟩⟩
    ·exact hsame _ _ _ q hq fun e=>hno ⟨0,hlv,e ▸ hb⟩
end Go.Vc
/- slices.SortFunc as a plain function. -/
namespace Go.Vc
open Go Go.Sort Go.Proofs
variable {P:Program}
open Classical in
noncomputable def sortF {α:Type} (xs:List α) (cmp:α→α→Option Int):Option (List α) :=
 if h:∃ cf:_root_.Fin xs.length→_root_.Fin xs.length→Int,(∀ i j,cmp xs[i] xs[j]=some (cf i j))∧SWO (ltOf cf)∧xs.length<4611686018427387904 then
  some ((sortIx xs.length h.choose).map fun i=>xs[i])
 else none
theorem B15 {n m:Nat} (h:n=m) (cf:_root_.Fin m→_root_.Fin m→Int):sortIx m cf=(sortIx n fun i j=>cf (i.cast h) (j.cast h)).map (_root_.Fin.cast h):=by
 subst h
 simp
theorem AC.sortF {α:Type} {f g:FuncId} {e:TypeId} {sz:Nat} {caps:List V} (fe:α→D) (cmp:α→α→Option Int) (xs r:List α) (h:Vc.sortF xs cmp=some r) (hS:SortOk P f sz) (hg:FnOk P g) (hag:∀ x,(fe x).isAgg=true) (hcp:V.noobL caps=true)
  (hca:caps.all (fun x => !x.isAgg)=true) (hc:∀ x y c,cmp x y=some c→AC P g ([.d (fe x),.d (fe y)]++caps) [] (.d (.int .i64 c)) []) :
  AC P f [.sref 0 sz 0 xs.length,.func g caps] [(0,.row e sz (xs.map fe))] (.tup []) [(0,some (.row e sz (r.map fe)))]:=by
 unfold Vc.sortF at h
 split at h
 ·rename_i hh
  cases h
  obtain⟨h1,h2,h3⟩:=hh.choose_spec
  generalize hh.choose=cf at h1 h2 h3 ⊢
  have hl:(xs.map fe).length=xs.length:=List.length_map _
  have hO:SWO (ltOf fun i j:_root_.Fin (xs.map fe).length=>cf (i.cast hl) (j.cast hl)):=⟨fun x=>h2.irrefl _,fun x y z=>h2.trans _ _ _,fun x y z=>h2.ntrans _ _ _⟩
  have key:=AC.sortFn (P:=P) (f:=f) (g:=g) (e:=e) (sz:=sz) (ds:=xs.map fe) (caps:=caps) (fun i j=>cf (i.cast hl) (j.cast hl)) hS hg (fun x hx=>by
   obtain⟨y,_,rfl⟩:=List.mem_map.1 hx;exact hag y) hcp hca hO (by rw [hl];exact h3) (fun i j=>by
   have:=hc _ _ _ (h1 (i.cast hl) (j.cast hl))
   simpa using this)
  rw [B15 hl cf]
  rw [List.map_map,List.map_map]
  have e1:(fun i:_root_.Fin (xs.map fe).length=>(xs.map fe)[i])=(fe ∘ (fun i=>xs[i]) ∘ _root_.Fin.cast hl):=by
   funext i
   simp
  rw [e1] at key
  have e2:(.sref 0 sz 0 (xs.map fe).length:V) = .sref 0 sz 0 xs.length:=by rw [hl]
  rw [e2] at key
  exact key
 ·cases h
theorem B3n {α:Type} {xs:List α} {cmp:α→α→Option Int} (k:α→α→Int) (hk:∀ x∈xs,∀ y∈xs,cmp x y=some (k x y)) (hi:∀ x∈xs,¬ k x x<0) (ht:∀ x∈xs,∀ y∈xs,∀ z∈xs,k x y<0→k y z<0→k x z<0)
  (hnt:∀ x∈xs,∀ y∈xs,∀ z∈xs,¬ k x y<0→¬ k y z<0→¬ k x z<0) (hn:xs.length<4611686018427387904) :
  ∃ r,sortF xs cmp=some r∧r.Perm xs∧r.Pairwise fun a b=>¬ k b a<0:=by
 have hm:∀ i:_root_.Fin xs.length,xs[i]∈xs:=fun i=>List.getElem_mem _
 have hh:∃ cf:_root_.Fin xs.length→_root_.Fin xs.length→Int,(∀ i j,cmp xs[i] xs[j]=some (cf i j))∧SWO (ltOf cf)∧xs.length<4611686018427387904:=by
  refine⟨fun i j=>k xs[i] xs[j],fun i j=>hk _ (hm i) _ (hm j),⟨fun x => ?_,fun x y z => ?_,fun x y z => ?_⟩,hn⟩
  ·simpa [ltOf] using hi _ (hm x)
  ·simpa [ltOf] using ht _ (hm x) _ (hm y) _ (hm z)
  ·simpa [ltOf] using hnt _ (hm x) _ (hm y) _ (hm z)
 obtain⟨h1,h2,h3⟩:=hh.choose_spec
 refine⟨_,by unfold sortF;rw [dif_pos hh],?_,?_⟩
 all_goals generalize hh.choose=cf at h1 h2 h3 ⊢
 ·obtain⟨_,p,_⟩:=A6m h2
  have:=p.map fun i=>xs[i]
  refine this.trans ?_
  rw [List.map_ofFn]
  have e:List.ofFn ((fun i:_root_.Fin xs.length=>xs[i]) ∘ id)=xs:=by
   refine List.ext_getElem? fun j => ?_
   by_cases hj:j<xs.length
   ·simp [hj]
   ·simp [hj]
  rw [e]
 ·obtain⟨_,_,q⟩:=A6m h2
  rw [List.pairwise_map]
  refine q.imp fun {i j} hij => ?_
  have h4:=h1 j i
  rw [hk _ (hm j) _ (hm i)] at h4
  simp only [ltOf,decide_eq_false_iff_not] at hij
  rw [Option.some.inj h4]
  exact hij
end Go.Vc
