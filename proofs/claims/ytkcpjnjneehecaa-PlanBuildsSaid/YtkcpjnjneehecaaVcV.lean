/- The capacity of a row that is a parameter; growing by zeros; copy from row to row; rows that do not overlap: what slices.Insert asks for. -/
import Derived.Test.YtkcpjnjneehecaaVcZ
import Derived.Test.YtkcpjnjneehecaaVcR
import Derived.Lib.AppendZerosOnto
import Derived.Lib.Overlaps
namespace Go.Vc
open Go
variable {P:Program} {B:Base} {ops:Array Oper}
section
variable {d:Nat} {x y:Operand} {ty:TypeId} {pos:String} {af:Array Edge} {nt nt':List (Nat×V)}
end
section
variable {d:Nat} {x y:Operand} {ty:TypeId} {pos:String} {af:Array Edge} {nt nt':List (Nat×V)}
theorem src_row {env:Env} {ob:Obs} {a:Act} {w:World} {σ:Nat→Option Nat} {Z:Nat→Prop} (sm:Sim B env ob a w σ Z) {nm e sz so sl k:Nat} {es:List D} (hob:ob nm=some (some (.row e sz es))) {v:Value} (hr:RepT ob σ Z w v (.sref nm sz so sl)) (hk0:0<k) (hks:k≤sl) (hk:so+k≤es.length) :
  ∃ sa sc cs,v = .slice (some sa) sl sc∧D.repL Z w ((es.drop so).take k) cs∧cs.length=k*sz∧(∀ j u,cs[j]? = some u→w.cell? (sa.add j)=some u)∧(∀ u∈cs,u.oneCell'=true):=by
 have hl:live ob nm:=⟨_,hob⟩
 obtain⟨ad,c,hv,hc1,hc2,hd⟩:=rep_sref hr hl
 have hro:=sm.obj nm _ hob
 rcases hd with ⟨k1,_,_,k4⟩ | ⟨b,e',k1,k2,_⟩
 ·omega
 ·rcases k2 with k2 | k2
  ·omega
  ·have hre:=D.repE_take _ b (0+so*sz) k (D.repE_drop _ b 0 so (row_repE hro k1))
   rw [Nat.zero_add] at hre
   have hsz:∀ q∈(es.drop so).take k,q.sz=sz:=fun q hq=>hro.2.1 q (List.mem_of_mem_drop (List.mem_of_mem_take hq))
   obtain⟨cs,g1,g2⟩:=D.repL_of_repE _ b _ hre hsz
   have gl:=D.repL_len _ cs g1
   rw [D.szL_all _ hsz,List.length_take,List.length_drop,Nat.min_eq_left (by omega)] at gl
   exact⟨_,c,cs,by rw [hv,k2],g1,gl,fun j u hj=>by rw [add_at];exact g2 j u hj,D.repL_one _ cs g1⟩
end
end Go.Vc
