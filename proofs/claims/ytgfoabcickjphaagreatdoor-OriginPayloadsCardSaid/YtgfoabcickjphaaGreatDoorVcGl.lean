/- Package variables that hold functions: they lie in settled memory. -/
import Derived.Test.YtgfoabcickjphaaGreatDoorVcM
import Derived.Test.YtgfoabcickjphaaGreatDoorVcP
namespace Go.Vc
open Go
variable {P:Program} {B:Base} {ops:Array Oper}
def fnsOf (fs:List FuncId):List Value:=fs.map fun f => .func (.func f) #[] #[]
def globF (g:Nat) (fs:List FuncId):Know where
 holds Z w:=Z g∧cellsAt w g 0 (fnsOf fs)
 move hx h:=⟨hx.sub g h.1,h.2.of_block (hx.same g h.1)⟩
theorem rep_fns {ob:Obs} {σ:Nat→Option Nat} {Z:Nat→Prop} {w:World}:∀ fs:List FuncId,V.repS ob σ Z w (fs.map fun f=>V.func f []) (fnsOf fs)
 | []=>rfl
 | f :: fs=>⟨[.func (.func f) #[] #[]],fnsOf fs,rfl,rfl,fun v hv=>by rw [List.mem_singleton.1 hv];rfl,⟨[],rfl,rfl⟩,rep_fns fs⟩
theorem szL_fns:∀ fs:List FuncId,V.szL (fs.map fun f=>V.func f [])=fs.length
 | []=>rfl
 | f :: fs=>by
  show V.sz (.func f [])+V.szL (fs.map fun f=>V.func f [])=fs.length+1
  rw [szL_fns fs]
  show 1+_=_
  omega
section
variable {d:Nat} {ty:TypeId} {pos:String} {af:Array Edge}
theorem OpJ.loadG {t:TypeId} {n g nm:Nat} (fs:List FuncId) (ht:TyS P t n true) (hn:fs.length=n) (hN:d<B.N) :
  OpJ P B ops ⟨some d,.load t (.global g),ty,pos,af,none⟩ { no:=[(nm,.know (globF g fs))],wt:=[(d,.st (fs.map fun f => .func f []))] } :=
 OpJ.run rfl rfl hN rfl fun env ob a w σ Z sm hne=>by
  have hob:=hne.2.1 (nm,.know (globF g fs)) (by simp)
  obtain⟨_,_,hc⟩:=sm.obj nm _ hob
  have hl:(fnsOf fs).length=n:=by unfold fnsOf;rw [List.length_map];exact hn
  refine⟨valOf true (fnsOf fs),w,σ,Z,?_,by rw [eff_obs0 _ rfl];exact sm,?_⟩
  ·simp only [execOp,Act.eval,Instr.loadAt,Instr.sureAddr,Sem.run_bind,Sem.run_pure,Result.andThen_ok,run_loadVar_at ht hc hl (fun h=>by cases h)]
  ·rw [eff_obs0 _ rfl]
   refine RepT.of (RepV.of_cells (x:=.st (fs.map fun f => .func f [])) (rep_fns fs) ?_ (fun u hu => ?_) true rfl) rfl
   ·show _=V.szL (fs.map fun f=>V.func f [])
    rw [szL_fns fs];unfold fnsOf;rw [List.length_map]
   ·obtain⟨f,_,rfl⟩:=List.mem_map.1 hu
    rfl
end
end Go.Vc
