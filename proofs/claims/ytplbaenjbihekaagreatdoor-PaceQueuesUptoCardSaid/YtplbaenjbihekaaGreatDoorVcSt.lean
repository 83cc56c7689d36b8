/- Strings: bytes read as one, equality. -/
import Derived.Test.YtplbaenjbihekaaGreatDoorVcYB
import Derived.Test.YtplbaenjbihekaaGreatDoorVcQ
import Derived.Laws.BytesArg
import Derived.Laws.Strings
namespace Go.Vc
open Go
variable {P:Program} {B:Base} {ops:Array Oper}
section
variable {d:Nat} {x y:Operand} {ty:TypeId} {pos:String} {af:Array Edge} {nt nt':List (Nat×V)}
def bstr (xs:List Int):List UInt8:=xs.map fun n=>UInt8.ofNat n.toNat
theorem B63 {Z:Nat→Prop} {w:World}:∀ (xs:List Int) (b o:Nat),D.repE Z w 1 (xs.map (eI .u8)) b o→∀ i,i<xs.length→w.cell? ⟨b,o+i,none⟩=some (.int .u8 (xs.getD i 0))
 | [],_,_,_,i,hi=>by simp at hi
 | x :: xs,b,o,h,i,hi=>by
  obtain⟨⟨cs,h1,h2⟩,h3⟩:=h;cases i with
  | zero =>
   have hc:cs=[.int .u8 x]:=h2;subst hc;simpa using h1 0 _ rfl
  | succ i =>
   have:=B63 xs b (o+1) h3 i (by simpa using hi);rw [show o+(i+1)=o+1+i from by omega];simpa using this
theorem OpJ.bytesStr {src dst e:TypeId} {xs:List Int} (hs:P.underlying src=some (.slice e)) (he:P.underlying e=some (.int .u8)) (hd:P.underlying dst=some .string) (hN:d<B.N) (hx:Opd x (.d (.list 1 (xs.map (eI .u8)))) nt) :
  OpJ P B ops ⟨some d,.convert src dst x,ty,pos,af,none⟩ { nt,wt:=[(d,.d (.str (bstr xs)))] } :=
 OpJ.pure rfl rfl hN fun env ob a w σ Z s h=>by
  obtain⟨ad,c,hv,h1,h2,h3⟩:=A72 (hx B env ob a w σ Z s h);refine⟨.string ⟨(bstr xs).toArray⟩,?_,C30 _⟩;have hrun:(convert src dst (.slice ad (xs.map (eI .u8)).length c)).run P w = .ok (.string ⟨(bstr xs).toArray⟩) w:=by
   rw [List.length_map];rcases h3 with h3 | ⟨b,o,ha,hz,hsz,hre⟩
   ·have:xs=[]:=by simpa using h3
    subst this;cases ad with
    | none=>exact run_convert_bytes_nil w src e hs he 0 c dst hd
    | some q =>
     rw [List.length_nil,run_convert_bytes_string w src dst e (some q) 0 c hs he hd,run_bytesToString w q 0 c [] (by simp [loadCells,loadCellsFrom])];rfl
   ·subst ha;exact run_convert_bytes_arg w src e hs he b o xs.length c xs rfl (B63 xs b o hre) dst hd
  simp only [execOp,hv,hrun,Sem.run_bind,Result.andThen_ok,Sem.run_pure]
theorem B7k (a:List UInt8):(⟨a.toArray⟩:ByteArray).toList=a:=by rw [ByteArray.toList_eq]
theorem OpJ.neqS {xt yt:TypeId} {a b:List UInt8} (hN:d<B.N) (hx:Opd x (.d (.str a)) nt) (hy:Opd y (.d (.str b)) nt') :
  OpJ P B ops ⟨some d,.binOp .neq xt x y yt,ty,pos,af,none⟩ { nt:=nt++nt',wt:=[(d,.d (.bool (a != b)))] } :=
 OpJ.pure rfl rfl hN fun env ob c w σ Z s hn=>by
  obtain⟨h1,h2⟩:=F9 hn;have e1:=B1z (hx B env ob c w σ Z s h1);have e2:=B1z (hy B env ob c w σ Z s h2);have g:(eqGuard .neq xt x y (.string ⟨a.toArray⟩) (.string ⟨b.toArray⟩)).run P w = .ok () w:=by simp [eqGuard]
  exact⟨.bool (a != b),by simp [execOp,e1,e2,binOp,g,Op.stringOp,B7k,bne],U3 _⟩
theorem OpJ.allocJ {t:TypeId} {z:Value} (hB:B.ok) (hz:∀ w,(zeroValue t).run P w = .ok z w) (h1:z.cells = #[z]∧z.oneCell'=true:=by exact⟨rfl,rfl⟩) {nm:Nat} (hnm:1000≤nm) (hN:d<B.N) :
  OpJ P B ops ⟨some d,.alloc t,ty,pos,af,none⟩ { nf:=[nm],wt:=[(d,.ptr nm 0 [])],wo:=[(nm,some (.box t .junk))] } :=
 OpJ.run rfl rfl hN rfl fun env ob a w σ Z sm hne=>by
  have hn:ob nm=none:=hne.2.2 nm (by simp);have s':=sm.newObj hB hn hnm (o:=.box t .junk) (c:=.cells z.cells t) fun ob' σ' m hs=>⟨w.heap.size,_,hs,heap_alloc_new w _,by rw [h1.1];intro u hu;simp at hu;rw [hu];exact h1.2,by rw [h1.1];rfl,trivial⟩;refine⟨.pointer (some ⟨w.heap.size,0,none⟩),_,_,_,?_,by rw [I4 _ rfl];exact s',by rw [I4 _ rfl];exact B2m (by rw [F0];simp) (by simp [updS])⟩;simp only [execOp,Instr.alloc,Sem.run_bind,hz,Result.andThen_ok,newVar,A17,Sem.run_pure]
end
end Go.Vc
