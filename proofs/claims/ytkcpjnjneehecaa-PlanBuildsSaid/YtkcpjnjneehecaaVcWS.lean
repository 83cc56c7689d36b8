/- slices.Clone of a row that is still written. -/
import Derived.Test.YtkcpjnjneehecaaVcW
import Derived.Test.YtkcpjnjneehecaaVcG
namespace Go.Vc
open Go Go.Proofs Go.RowKit
variable {P:Program}
section
variable {B:Base} {ops:Array Oper} {d:Nat} {ty:TypeId} {pos:String} {af:Array Edge}
theorem fill_range {n sz:Nat}:∀ (l:List (Nat×Value)),(∀ p∈l,p.1<n)→∀ (c:Array Value),Instr.fill (fun i=>some (i*sz,sz)) c l=Instr.fill (fun i=>((List.range n).map fun i=>(i*sz,sz))[i]?) c l
 | [],_,_=>rfl
 | (k,v) :: l,hp,c=>by
  have hk:k<n:=hp (k,v) (by simp)
  have hk2:((List.range n).map fun i=>(i*sz,sz))[k]? = some (k*sz,sz):=by simp [List.getElem?_map,List.getElem?_range hk]
  simp only [Instr.fill,hk2]
  split
  ·rfl
  ·exact fill_range l (fun p hp'=>hp p (by simp [hp'])) _
theorem OpJ.buildArr {t e:TypeId} {n sz:Nat} {ag:Bool} {z:D} (hu:P.underlying t=some (.array n e)) (ht:TyS P e sz ag) (hz:TyZ P t (.d (.arr n sz (List.replicate n z))))
  {parts:List (Nat×Operand)} {vs:List (Nat×V)} {nt:List (Nat×V)} (hx:Opds parts vs nt) (hok:okParts ((List.range n).map fun i=>(i*sz,sz)) (List.replicate n (.d z)) vs=true)
  {es:List D} (hes:es.map V.d=setParts (List.replicate n (.d z)) vs) (hel:es.length=n) (hsz:D.szs sz es=true) (hpn:∀ p∈parts,p.1<n) (hN:d<B.N) :
  OpJ P B ops ⟨some d,.build t parts.toArray,ty,pos,af,none⟩ { nt,wt:=[(d,.d (.arr n sz es))] } :=
 OpJ.pure rfl rfl hN fun env ob a w σ Z sm hne=>by
  obtain⟨h1,h2,h3⟩:=V.rep_enc (ob:=ob) (σ:=σ) (Z:=Z) (w:=w) (.d (.arr n sz (List.replicate n z))) hz.plain
  have hr:D.rep Z w (.arr n sz (List.replicate n z)) (V.d (.arr n sz (List.replicate n z))).enc:=h1
  obtain⟨_,hzs,hL⟩:=hr
  have hc:(valOf (V.d (.arr n sz (List.replicate n z))).isAgg (V.d (.arr n sz (List.replicate n z))).enc).cells=(V.d (.arr n sz (List.replicate n z))).enc.toArray:=by simp [valOf,V.isAgg,D.isAgg,Value.cells]
  have hV:V.repS ob σ Z w (List.replicate n (.d z)) (V.d (.arr n sz (List.replicate n z))).enc:=by
   have:=repS_map_d (ob:=ob) (σ:=σ) hL
   simpa using this
  obtain⟨cells',k1,k2,k3⟩:=fill_parts sm hx hne (cells:=(V.d (.arr n sz (List.replicate n z))).enc.toArray) hok (by simpa using hV) (by
   have:=D.repL_len _ _ hL
   rw [List.size_toArray,this]
   rw [← szL_map_d];simp) (by simpa using h3)
  rw [← hes] at k2
  have hL2:=repS_toL k2
  have hagg:RepV ob σ Z w (.agg cells') (.d (.arr n sz es)):=by
   unfold RepV
   rw [if_pos (show V.isAgg (.d (.arr n sz es))=true from rfl)]
   exact⟨cells'.toList,by simp,⟨hel,D.szs_spec hsz,hL2⟩⟩
  refine⟨.agg cells',?_,RepT.of hagg rfl⟩
  have hmap:(parts.toArray.map fun p=>(p.1,a.eval p.2)).toList=parts.map fun p=>(p.1,a.eval p.2):=by simp
  have hfill:=fill_range (n:=n) (sz:=sz) (parts.map fun p=>(p.1,a.eval p.2)) (fun p hp=>by
   obtain⟨q,hq,rfl⟩:=List.mem_map.1 hp
   exact hpn q hq) ((V.d (.arr n sz (List.replicate n z))).enc.toArray)
  rw [k1] at hfill
  simp only [execOp,Instr.build,Sem.run_bind,hz.run,Result.andThen_ok,run_underlying hu,ht.run_size,hc,hmap,hfill,Sem.run_pure]
end
end Go.Vc
