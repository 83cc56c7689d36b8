/- What slices.Delete asks for: a slice with three places, append onto a part of a row from that row, a part of a row beyond its slice. -/
import Derived.Test.YtkcpjnjneehecaaVcV
import Derived.Laws.AppendOwn
namespace Go.Vc
open Go
variable {P:Program} {B:Base} {ops:Array Oper}
section
variable {d:Nat} {x y:Operand} {ty:TypeId} {pos:String} {af:Array Edge} {nt nt' nt'':List (Nat×V)}
theorem run_append_at (w:World) (t ty e:TypeId) {sz:Nat} {ag:Bool} (hu:P.underlying t=some (.slice e)) (ht:TyS P e sz ag) (g sLen sCap:Nat) (cur:Array Value) (hg:w.heap[g]? = some (.cells cur e (0,0)))
  (yv:Value) (m:Nat) (news:List Value) (hm:(Builtin.lenOf yv).run P w = .ok m w) (hf:(Builtin.firstCells sz m yv).run P w = .ok news.toArray w) (h1:∀ u∈news,u.oneCell'=true) (hroom:sLen+m≤sCap) (hfit:sLen*sz+news.length≤cur.size) :
  (Builtin.append_ #[t,t] ty #[.slice (some ⟨g,0,none⟩) sLen sCap,yv]).run P w = .ok (.slice (some ⟨g,0,none⟩) (sLen+m) sCap) (w.setRow g (cur.toList.take (sLen*sz)++news++cur.toList.drop (sLen*sz+news.length)).toArray):=by
 have hst:=run_storeCells_at P g (sLen*sz) e news 0 cur w hg (by simpa using hfit) h1
 simp only [Nat.add_zero] at hst
 have hsz:=ht.run_size w
 simp [Builtin.append_,run_underlying hu,hsz,hm,hroom,hf,Addr.add_lit,hst]
end
end Go.Vc
