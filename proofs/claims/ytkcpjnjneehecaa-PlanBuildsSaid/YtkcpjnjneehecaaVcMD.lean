/- Maps: loops over all entries, in whatever order. -/
import Derived.Test.YtkcpjnjneehecaaVcMC
namespace Go.Vc
open Go
variable {P:Program} {B:Base} {ops:Array Oper}
section
variable {A S:Type} {Q:Exit→EL→OL→Prop}
end
section
variable {d:Nat} {x i:Operand} {ty:TypeId} {pos:String} {af:Array Edge} {nt nt':List (Nat×V)}
theorem OpJ.indexStr {t:TypeId} (hu:P.underlying t=some .string) {s:List UInt8} {k:IntKind} {n:Int} {b:UInt8} (h0:0≤n) (he:s[n.toNat]? = some b) (hN:d<B.N) (hx:Opd x (.d (.str s)) nt) (hi:Opd i (.d (.int k n)) nt') :
  OpJ P B ops ⟨some d,.index t x i,ty,pos,af,none⟩ { nt:=nt++nt',wt:=[(d,.d (.int .u8 (b.toNat:Int)))] } :=
 OpJ.pure rfl rfl hN fun env ob a w σ Z sm hne=>by
  obtain⟨h1,h2⟩:=needs_app hne
  have hs:=rep_str (hx B env ob a w σ Z sm h1)
  have hin:=rep_int (hi B env ob a w σ Z sm h2)
  have hb:(⟨s.toArray⟩:ByteArray)[n.toNat]? = some b:=by
   have hlt:n.toNat<s.length:=(List.getElem?_eq_some_iff.1 he).1
   have hl2:n.toNat<(⟨s.toArray⟩:ByteArray).size:=by simpa [ByteArray.size] using hlt
   rw [getElem?_pos (⟨s.toArray⟩:ByteArray) n.toNat hl2]
   have:=(List.getElem?_eq_some_iff.1 he).2
   simp only [Option.some.injEq]
   rw [← this];rfl
  refine⟨.int .u8 (b.toNat:Int),?_,mk_int _ _⟩
  simp [execOp,hs,hin,Instr.index,asIntOf,run_underlying hu,h0,hb]
end
end Go.Vc
