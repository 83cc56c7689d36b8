/- Operations by evaluation that make or write memory; calls; a region walked by search. -/
import Derived.Test.YtplbaenjbihekaaGreatDoorVcGA
namespace Go.Vc
open Go
variable {P:Program} {B:Base} {ops:Array Oper} {E:EL} {O:OL}
-- values as data: the zero tells of what type a nil is
mutual
def coZ:D→V→Option D
 | _,.d x=>some x
 | .list sz _,.nils=>some (.list sz [])
 | .st zs,.st fs=>match coZL zs fs with
  | some ds=>some (.st ds)
  | none=>none
 | _,_=>none
def coZL:List D→List V→Option (List D)
 | [],[]=>some []
 | z :: zs,f :: fs=>match coZ z f with
  | some d=>match coZL zs fs with
   | some ds=>some (d :: ds)
   | none=>none
  | none=>none
 | _,_=>none
end
mutual
theorem B4c:∀ {v:V} {z y:D},coZ z v=some y→Co v y
 | .d x,z,y,h=>by
  cases z<;>(simp only [coZ,Option.some.injEq] at h;subst h;exact Co.d _)
 | .nils,z,y,h=>by
  cases z<;>simp only [coZ,Option.some.injEq] at h
  all_goals first | (subst h;exact Co.nils _) | cases h
 | .st fs,z,y,h=>by
  cases z with
  | st zs =>
   simp only [coZ] at h
   split at h
   ·rename_i ds hd;cases h;exact Co.st (B2v hd)
   ·cases h
  | _=>simp [coZ] at h
 | .junk,z,y,h=>by cases z<;>simp [coZ] at h
 | .ptr ..,z,y,h=>by cases z<;>simp [coZ] at h
 | .dptr ..,z,y,h=>by cases z<;>simp [coZ] at h
 | .sref ..,z,y,h=>by cases z<;>simp [coZ] at h
 | .func ..,z,y,h=>by cases z<;>simp [coZ] at h
 | .tup ..,z,y,h=>by cases z<;>simp [coZ] at h
 | .opt ..,z,y,h=>by cases z<;>simp [coZ] at h
 | .mref ..,z,y,h=>by cases z<;>simp [coZ] at h
 | .full ..,z,y,h=>by cases z<;>simp [coZ] at h
theorem B2v:∀ {fs:List V} {zs ys:List D},coZL zs fs=some ys→CoL fs ys
 | [],zs,ys,h=>by
  cases zs<;>simp [coZL] at h
  subst h;exact CoL.nil
 | f :: fs,zs,ys,h=>by
  cases zs with
  | nil=>simp [coZL] at h
  | cons z zs =>
   simp only [coZL] at h
   split at h
   ·rename_i d hd
    split at h
    ·rename_i ds hds;cases h;exact CoL.cons (B4c hd) (B2v hds)
    ·cases h
   ·cases h
end
-- parts of a literal
def cods (z:D):List (Nat×V)→Option (List (Nat×V))
 | []=>some []
 | (i,v) :: l=>match coZ z v with
  | some d=>match cods z l with
   | some ds=>some ((i,.d d) :: ds)
   | none=>none
  | none=>none
theorem Opds.co {z:D}:∀ {l:List (Nat×Operand)} {vs ws:List (Nat×V)} {nt:EL},Opds l vs nt→cods z vs=some ws→Opds l ws nt
 | _,_,ws,_,.nil,h=>by simp only [cods,Option.some.injEq] at h;subst h;exact .nil
 | _,_,ws,_,.cons hx k,h=>by
  simp only [cods] at h
  split at h
  ·rename_i d hd
   split at h
   ·rename_i ds hds;cases h;exact .cons (Opd.co (B4c hd) hx) (Opds.co k hds)
   ·cases h
  ·cases h
section
variable {d n:Nat} {ty xt yt t:TypeId} {pos:String} {af:Array Edge} {x y z:Operand} {v w:V} {k k':IntKind} {a b:Int} {nm off:Nat} {p:List Nat}
-- calls
inductive CoA:List V→List V→Prop
 | nil:CoA [] []
 | eq {v w:V} {vs ws:List V}:v=w→CoA vs ws→CoA (v :: vs) (w :: ws)
 | co {v w:V} {y:D} {vs ws:List V}:w = .d y→Co v y→CoA vs ws→CoA (v :: vs) (w :: ws)
structure CL (P:Program) (R:List (Nat×Nat)) (f:FuncId) (args:List V) (pobs:List (Nat×Ob)) (res:V) (robs:OL):Prop where
 ac:AC P f args pobs res robs
 ok:okCall R args pobs robs=true
end
section
variable {d n:Nat} {ty t:TypeId} {pos:String} {af:Array Edge} {x y:Operand} {v:V} {nm off:Nat} {p:List Nat}
end
section
variable {os:List Oper} {l:List Eff} {E':EL} {O':OL}
end
section
variable {os:List Oper} {K:List Eff→EL→OL→Prop} {o:Oper} {d m m':Nat} {nt wt:EL} {no:List (Nat×Ob)} {nf:List Nat} {v:V} {x x':Option Ob}
section
variable {g:Nat} {op:Op} {ty:TypeId} {pos:String} {af:Array Edge} {j:Nat} {want w:Bool}
end
end
section
variable {rs:List ResultVar} {vs:List V}
theorem rN:Res P E O [] []:=Res.nil
theorem rT {t:Nat} {v:V} (k:Res P E O rs vs) (h:look E t=some v:=by rfl) (h1:v.isTop=false:=by rfl):Res P E O (.tmp t :: rs) (v :: vs):=Res.tmp h h1 k
end
section
variable {id:Nat} {l:List Oper} {effs:List Eff} {E':EL} {O':OL} {Q:Exit→EL→OL→Prop} {c2:Code}
end
end Go.Vc
