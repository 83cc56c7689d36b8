/- A row that is cut off at its end, in place. -/
import Derived.Test.YtkhjkjojjdkidaaGreatDoorVcT
namespace Go.Vc
open Go
variable {P:Program} {B:Base} {ops:Array Oper}
section
variable {d:Nat} {x y i:Operand} {ty:TypeId} {pos:String} {af:Array Edge}
theorem OpJ.buildSliceR {t e:TypeId} {sz:Nat} {ag:Bool} {z:D} (hu:P.underlying t=some (.slice e)) (ht:TyS P e sz ag) (hz:TyZ P e (.d z)) (hzs:z.sz=sz) (h0:0<sz) {n:Nat} (hn24:n*sz≤16777216) (hB:B.ok) {nm:Nat} (hnm:1000≤nm) {len:Nat} (hlen2:len=n)
  {parts:List (Nat×Operand)} {vs:List (Nat×V)} {nt:List (Nat×V)} (hx:Opds parts vs nt) (hok:okParts ((List.range n).map fun i=>(i*sz,sz)) (List.replicate n (.d z)) vs=true)
  {es:List D} (hes:es.map V.d=setParts (List.replicate n (.d z)) vs) (hel:es.length=n) (hsz:D.szs sz es=true) (hpn:∀ p∈parts,p.1<n) (hN:d<B.N) :
  OpJ P B ops ⟨some d,.buildSlice t n parts.toArray,ty,pos,af,none⟩ { nt,nf:=[nm],wt:=[(d,.sref nm sz 0 len)],wo:=[(nm,some (.row e sz es))] } :=
 OpJ.run rfl rfl hN rfl fun env ob a w σ Z sm hne=>by
  have hzp:z.plain=true:=hz.plain
  have hrep:=D.rep_enc (Z:=Z) (w:=w) z hzp
  have hzl:=D.rep_len z _ hrep
  have hcells:(valOf (V.d z).isAgg (V.d z).enc).cells=z.enc.toArray:=by
   have:=hz.cells
   rw [← Array.toArray_toList (xs:=(valOf (V.d z).isAgg (V.d z).enc).cells),this];rfl
  have hzr:=V5 (Z:=Z) (w:=w) hzp n
  have hV:V.repS ob σ Z w (List.replicate n (.d z)) (List.replicate n z.enc).flatten:=by
   have:=A43 (ob:=ob) (σ:=σ) hzr
   simpa using this
  have hone:∀ u∈(List.replicate n z.enc).flatten,u.oneCell'=true:=D.repL_one _ _ hzr
  obtain⟨cells',k1,k2,k3⟩:=A2k sm hx hne.1 (cells:=(List.replicate n z.enc).flatten.toArray) hok (by simpa using hV) (by
   have:=D.repL_len _ _ hzr
   rw [List.size_toArray,this]
   rw [← A3q];simp) (by simpa using hone)
  rw [← hes] at k2
  have hL:=A4q k2
  have hlen:cells'.size=n*sz:=by
   have:=D.repL_len _ _ hL
   rw [D.szL_all es (D.szs_spec hsz),hel] at this
   rw [← Array.length_toList];exact this
  have hfr:ob nm=none:=hne.2.2 nm (by simp)
  have hown:(w.alloc (.cells cells' e)).ownsRow 0 e sz (.slice (some ⟨w.heap.size,0,none⟩) n n) es.length cells'.toList:=by
   refine⟨by rw [Array.length_toList,hlen,hel],.inr ⟨w.heap.size,n,_,by rw [hel],Nat.zero_le _,heap_alloc_new w _,by omega,?_,hlen,?_⟩⟩
   ·have:n≤n*sz:=Nat.le_mul_of_pos_right _ h0
    simp only [maxLen];omega
   ·rw [hel,List.take_of_length_le (by rw [Array.length_toList,hlen];omega)]
  have s2:=sm.newObj hB hfr hnm (o:=.row e sz es) (c:=.cells cells' e) fun ob' σ' m hσ =>
   ⟨h0,D.szs_spec hsz,_,_,hown,D.repL_ext m.ext _ _ hL,by rw [hσ];rfl,fun hn=>by rw [hσ] at hn;cases hn⟩
  rw [N4 _ rfl]
  refine⟨.slice (some ⟨w.heap.size,0,none⟩) n n,w.alloc (.cells cells' e),updS σ nm (some w.heap.size),Z,?_,s2,?_⟩
  ·have hmap:(parts.toArray.map fun p=>(p.1,a.eval p.2)).toList=parts.map fun p=>(p.1,a.eval p.2):=by simp
   have hpl:∀ (l:List (Nat×Value)),(∀ p∈l,p.1<n)→∀ (c:Array Value),Instr.fill (fun i=>some (i*sz,sz)) c l=Instr.fill (fun i=>((List.range n).map fun i=>(i*sz,sz))[i]?) c l:=by
    intro l
    induction l with
    | nil=>intro _ c;rfl
    | cons p l ih =>
     intro hp c
     obtain⟨k,v⟩:=p
     have hk:k<n:=hp (k,v) (by simp)
     have hk2:((List.range n).map fun i=>(i*sz,sz))[k]? = some (k*sz,sz):=by simp [List.getElem?_map,List.getElem?_range hk]
     simp only [Instr.fill,hk2]
     split
     ·rfl
     ·exact ih (fun p hp'=>hp p (by simp [hp'])) _
   have h1:(parts.map fun p=>(p.1,a.eval p.2)).all (fun p=>decide (p.1<n))=true:=by
    rw [List.all_eq_true]
    intro q hq
    obtain⟨p,hp,rfl⟩:=List.mem_map.1 hq
    simpa using hpn p hp
   have hfill:=hpl (parts.map fun p=>(p.1,a.eval p.2)) (fun p hp=>by simpa using List.all_eq_true.1 h1 p hp) ((List.replicate n z.enc).flatten.toArray)
   rw [k1] at hfill
   have hzero:((Array.range (n*sz)).map fun i=>z.enc.toArray[i % z.enc.toArray.size]!)=(List.replicate n z.enc).flatten.toArray:=by
    have:=R0 z.enc (by omega) n
    rw [← this,hzl,hzs]
    apply Array.toList_inj.1
    simp
   by_cases hnz:n*sz=0
   ·have hn0:n=0:=by rcases Nat.mul_eq_zero.1 hnz with h | h<;>omega
    subst hn0
    have hnil:parts=[]:=by
     cases parts with
     | nil=>rfl
     | cons p _=>have:=hpn p (by simp);omega
    subst hnil
    have hc':cells' = #[]:=by simpa [Instr.fill] using k1.symm
    have hr0:(Array.map (fun _=>(default:Value)) (Array.range 0)) = #[]:=by apply Array.toList_inj.1;simp
    simp [execOp,Instr.buildSlice,run_underlying hu,ht.run_size,hc',Instr.fill,A04,hr0]
   ·simp only [execOp,Instr.buildSlice,Sem.run_bind,run_underlying hu,Result.andThen_ok,ht.run_size,Sem.run_pure,hmap]
    rw [if_neg (show ¬ n*sz > 2 ^ 24 from by omega),if_neg hnz]
    simp only [Sem.run_bind,hz.run,Result.andThen_ok,Sem.run_pure,hcells,hzero,hfill,A04]
  ·have:=S0 (ob:=updO ob nm (some (.row e sz es))) (σ:=updS σ nm (some w.heap.size)) (Z:=Z) (nm:=nm) (by rw [D6];simp) hown (by simp [updS,Value.ownBlock])
   rw [hlen2]
   simpa [hel] using this
end
section
variable {d:Nat} {x y i:Operand} {ty:TypeId} {pos:String} {af:Array Edge} {nt nt':List (Nat×V)}
end
theorem A5s {α:Type} {es:List α} {off len:Nat} {i:Int} {x:α} (h:idx ((es.drop off).take len) i=some x):0≤i∧i.toNat<len:=by
 have h1:=E9 h
 obtain⟨h2,_⟩:=List.getElem?_eq_some_iff.1 h1.2
 rw [List.length_take] at h2
 exact⟨h1.1,by omega⟩
theorem B28 {α:Type} {es:List α} {off len:Nat} {i:Int} {x:α} (h:idx ((es.drop off).take len) i=some x):es[off+i.toNat]? = some x:=by
 have h1:=E9 h
 have h2:=A5s h
 rw [List.getElem?_take_of_lt h2.2,List.getElem?_drop] at h1
 exact h1.2
end Go.Vc
