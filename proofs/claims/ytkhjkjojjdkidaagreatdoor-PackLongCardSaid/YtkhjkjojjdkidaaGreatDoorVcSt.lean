/- Strings: bytes read as one, equality. -/
import Derived.Test.YtkhjkjojjdkidaaGreatDoorVcYB
import Derived.Test.YtkhjkjojjdkidaaGreatDoorVcQ
import Derived.Laws.BytesArg
import Derived.Laws.Strings
namespace Go.Vc
open Go
variable {P:Program} {B:Base} {ops:Array Oper}
section
variable {d:Nat} {x y:Operand} {ty:TypeId} {pos:String} {af:Array Edge} {nt nt':List (Nat×V)}
def bstr (xs:List Int):List UInt8:=xs.map fun n=>UInt8.ofNat n.toNat
theorem B16 {Z:Nat→Prop} {w:World}:∀ (xs:List Int) (b o:Nat),D.repE Z w 1 (xs.map (eI .u8)) b o→∀ i,i<xs.length→w.cell? ⟨b,o+i,none⟩=some (.int .u8 (xs.getD i 0))
 | [],_,_,_,i,hi=>by simp at hi
 | x :: xs,b,o,h,i,hi=>by
  obtain⟨⟨cs,h1,h2⟩,h3⟩:=h
  cases i with
  | zero =>
   have hc:cs=[.int .u8 x]:=h2
   subst hc
   simpa using h1 0 _ rfl
  | succ i =>
   have:=B16 xs b (o+1) h3 i (by simpa using hi)
   rw [show o+(i+1)=o+1+i from by omega]
   simpa using this
theorem OpJ.bytesStr {src dst e:TypeId} {xs:List Int} (hs:P.underlying src=some (.slice e)) (he:P.underlying e=some (.int .u8)) (hd:P.underlying dst=some .string) (hN:d<B.N) (hx:Opd x (.d (.list 1 (xs.map (eI .u8)))) nt) :
  OpJ P B ops ⟨some d,.convert src dst x,ty,pos,af,none⟩ { nt,wt:=[(d,.d (.str (bstr xs)))] } :=
 OpJ.pure rfl rfl hN fun env ob a w σ Z s h=>by
  obtain⟨ad,c,hv,h1,h2,h3⟩:=A3r (hx B env ob a w σ Z s h)
  refine⟨.string ⟨(bstr xs).toArray⟩,?_,B6h _⟩
  have hrun:(convert src dst (.slice ad (xs.map (eI .u8)).length c)).run P w = .ok (.string ⟨(bstr xs).toArray⟩) w:=by
   rw [List.length_map]
   rcases h3 with h3 | ⟨b,o,ha,hz,hsz,hre⟩
   ·have:xs=[]:=by simpa using h3
    subst this
    cases ad with
    | none=>exact run_convert_bytes_nil w src e hs he 0 c dst hd
    | some q =>
     rw [List.length_nil,run_convert_bytes_string w src dst e (some q) 0 c hs he hd,run_bytesToString w q 0 c [] (by simp [loadCells,loadCellsFrom])]
     rfl
   ·subst ha
    exact run_convert_bytes_arg w src e hs he b o xs.length c xs rfl (B16 xs b o hre) dst hd
  simp only [execOp,hv,hrun,Sem.run_bind,Result.andThen_ok,Sem.run_pure]
theorem B24 (a:List UInt8):(⟨a.toArray⟩:ByteArray).toList=a:=by rw [ByteArray.toList_eq]
theorem OpJ.neqS {xt yt:TypeId} {a b:List UInt8} (hN:d<B.N) (hx:Opd x (.d (.str a)) nt) (hy:Opd y (.d (.str b)) nt') :
  OpJ P B ops ⟨some d,.binOp .neq xt x y yt,ty,pos,af,none⟩ { nt:=nt++nt',wt:=[(d,.d (.bool (a != b)))] } :=
 OpJ.pure rfl rfl hN fun env ob c w σ Z s hn=>by
  obtain⟨h1,h2⟩:=E7 hn
  have e1:=A7v (hx B env ob c w σ Z s h1)
  have e2:=A7v (hy B env ob c w σ Z s h2)
  have g:(eqGuard .neq xt x y (.string ⟨a.toArray⟩) (.string ⟨b.toArray⟩)).run P w = .ok () w:=by simp [eqGuard]
  exact⟨.bool (a != b),by simp [execOp,e1,e2,binOp,g,Op.stringOp,B24,bne],O4 _⟩
end
end Go.Vc
