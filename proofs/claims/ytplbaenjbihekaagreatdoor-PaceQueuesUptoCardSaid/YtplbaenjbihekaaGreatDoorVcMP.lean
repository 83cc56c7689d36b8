/- Maps in plain words. -/
import Derived.Test.YtplbaenjbihekaaGreatDoorVcMD
namespace Go.Vc
open Go
section
variable {α β:Type} {eq:α→α→Bool}
def KeyLaw (eq:α→α→Bool):Prop:=∀ a b,eq a b=true↔a=b
theorem C0b (q:α):mget eq ([]:List (α×β)) q=none:=rfl
theorem A73 (p:α×β) (l:List (α×β)) (q:α):mget eq (p :: l) q=if eq q p.1=true then some p.2 else mget eq l q:=by
 have e:mix eq q (p :: l)=if eq q p.1=true then some (0,p.2) else (mix eq q l).map fun r=>(r.1+1,r.2):=by rw [mix]
 show(mix eq q (p :: l)).map (·.2)=if eq q p.1=true then some p.2 else (mix eq q l).map (·.2);rw [e]
 by_cases h:eq q p.1=true
 ·rw [if_pos h,if_pos h];rfl
 ·rw [if_neg h,if_neg h];cases mix eq q l<;>rfl
theorem A4d (h:KeyLaw eq) (k:α) (v:β) [DecidableEq α]:∀ (l:List (α×β)) (q:α),mget eq (mput eq l k v) q=if q=k then some v else mget eq l q
 | [],q=>by
  unfold mput;rw [A73,C0b]
  by_cases e:q=k
  ·rw [if_pos ((h _ _).2 e),if_pos e]
  ·rw [if_neg (fun x=>e ((h _ _).1 x)),if_neg e]
 | p :: l,q=>by
  have ih:=A4d h k v l q;unfold mput
  by_cases hk:eq k p.1=true
  ·have hkp:=(h _ _).1 hk;rw [if_pos hk,A73,A73]
   by_cases e:q=k
   ·have:eq q p.1=true:=(h _ _).2 (e.trans hkp);rw [if_pos this,if_pos e]
   ·have:¬ eq q p.1=true:=fun x=>e (((h _ _).1 x).trans hkp.symm);rw [if_neg this,if_neg e,if_neg this]
  ·have hkp:¬ k=p.1:=fun x=>hk ((h _ _).2 x);rw [if_neg hk,A73,A73,ih]
   by_cases hq:eq q p.1=true
   ·have hqp:=(h _ _).1 hq;rw [if_pos hq,if_pos hq,if_neg (fun e=>hkp (e.symm.trans hqp))]
   ·rw [if_neg hq,if_neg hq]
end
end Go.Vc
