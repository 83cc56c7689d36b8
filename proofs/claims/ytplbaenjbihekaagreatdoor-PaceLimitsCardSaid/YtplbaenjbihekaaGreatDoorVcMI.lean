/- Regions that draw where one operation looks at an object that another one may have changed already; maps whose entries bear their places as stamps: what m[k] op= v does. -/
import Derived.Test.YtplbaenjbihekaaGreatDoorVcMD
import Derived.Test.YtplbaenjbihekaaGreatDoorVcYB
namespace Go.Vc
open Go
variable {P:Program} {B:Base} {ops:Array Oper} {E:EL} {O:OL}
-- maps whose entries bear their places
def placed (es:List MapEntry) (clock:Nat):Prop:=clock=es.length∧es.map (·.born)=List.range es.length
theorem placed.push {es:List MapEntry} {clock:Nat} (h:placed es clock) (kv vv:Value):placed (es++[{ key:=kv,val:=vv,born:=clock }]) (clock+1):=by
 obtain⟨rfl,h⟩:=h;refine⟨by simp,?_⟩;rw [List.map_append,h,List.length_append];exact(List.range_succ ..).symm
section
variable {α β:Type} {eq:α→α→Bool}
theorem B4w {k:α} {v:β}:∀ {l:List (α×β)},mix eq k l=none→mput eq l k v=l++[(k,v)]
 | [],_=>rfl
 | p :: l,h=>by
  unfold mix at h
  by_cases hc:eq k p.1=true
  ·rw [if_pos hc] at h;cases h
  ·rw [if_neg hc,Option.map_eq_none_iff] at h;rw [mput,if_neg hc,B4w h];rfl
end
section
variable {d:Nat} {x y i:Operand} {ty:TypeId} {pos:String} {af:Array Edge} {nt nt' nt'':List (Nat×V)}
section
variable {α β:Type} {f:α→D} {g:β→D} {eq:α→α→Bool} {kt et t:TypeId} {kd:TypeDesc} {nm:Nat} {l:List (α×β)} {k:α}
end
end
end Go.Vc
