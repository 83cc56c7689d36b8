/- A region is walked by search: the default argument of this lemma does it. -/
import Derived.Test.YtkhjkjojjdkidaaGreatDoorVcGB
import Derived.KernelRfl
namespace Go.Vc
open Go
variable {P:Program} {B:Base} {E:EL} {O:OL} {Q:Exit→EL→OL→Prop} {ops:Array Oper}
section
variable {p:Prop} {id:Nat} {os:List Oper} {effs:List Eff} {E':EL} {O':OL} {c2:Code}
theorem SQ (y:p) (s:p→∀ K:List Eff→EL→OL→Prop,K effs E' O'→SqK P B ops E O os K:=by
 intro y K hk
 repeat (first
  | exact K0 hk
  | refine K1 (eMv hN rfl rfl) ?_
  | refine K1 (eAs hN rfl rfl) ?_
  | (refine KG (eCl hB hN y.1 rfl (by repeat first | exact .nil | refine .eq (by with_reducible_and_instances exact rfl) ?_ | refine .eq (by exact rfl) ?_ | refine .co rfl (by repeat first | exact Co.d _ | exact Co.nils _ | exact CoL.nil | refine Co.st ?_ | refine CoL.cons ?_ ?_) ?_) rfl rfl rfl rfl) ?_;replace y:=y.2)
  | refine KW (eAl hB hN rfl rfl) ?_
  | refine KW (eBx hB hN rfl rfl rfl rfl rfl) ?_
  | refine KS (eSt rfl rfl rfl rfl rfl rfl rfl rfl rfl) ?_
  | (refine KA (eAp hB hN rfl rfl rfl rfl y.1 rfl rfl rfl (by intro;rfl) (by decide) rfl) ?_;replace y:=y.2)
  | (refine KW (eApN hB hN rfl rfl y.1 rfl rfl (by intro;rfl) (by decide) rfl) ?_;replace y:=y.2)
  | (refine KW (eMk hB hN rfl rfl y.1 rfl rfl rfl (by decide) rfl) ?_;replace y:=y.2)
  | (refine KG (eCV hB hN y.1 rfl rfl rfl (by repeat first | exact .nil | refine .eq (by with_reducible_and_instances exact rfl) ?_ | refine .eq (by exact rfl) ?_ | refine .co rfl (by repeat first | exact Co.d _ | exact Co.nils _ | exact CoL.nil | refine Co.st ?_ | refine CoL.cons ?_ ?_) ?_) rfl rfl rfl rfl rfl) ?_;replace y:=y.2)
  | (refine KS (eStR rfl rfl rfl y.1 y.2.1 rfl rfl rfl rfl rfl rfl rfl) ?_;replace y:=y.2.2)
  | (refine KG (eCl0 hB y.1 rfl (by repeat first | exact .nil | refine .eq (by with_reducible_and_instances exact rfl) ?_ | refine .eq (by exact rfl) ?_ | refine .co rfl (by repeat first | exact Co.d _ | exact Co.nils _ | exact CoL.nil | refine Co.st ?_ | refine CoL.cons ?_ ?_) ?_) rfl rfl rfl) ?_;replace y:=y.2)
  | (apply K1;(first | (apply gT;exact rfl;exact rfl) | skip);first
      | exact eLdB hN rfl rfl rfl rfl rfl rfl rfl rfl | exact eLdD hN rfl rfl rfl rfl | exact eFP hN rfl rfl rfl inferInstance rfl | exact eFD hN rfl rfl inferInstance rfl rfl rfl | exact eMv hN rfl rfl | exact eAs hN rfl rfl
      | (apply tB;first | exact eBin hN rfl rfl rfl rfl | exact eQuo6 hN rfl rfl (by decide) rfl | exact eQuo hN rfl rfl (by decide) rfl | exact eRem hN rfl rfl (by decide) rfl | exact eShl hN rfl rfl (by first | decide | exact A37 rfl _) rfl | exact eShr hN rfl rfl (by first | decide | exact A37 rfl _) rfl | exact eEqB hN rfl rfl rfl | exact eNeB hN rfl rfl rfl | exact eEqD hN rfl rfl rfl | exact eNeD hN rfl rfl rfl | (exact eQuo6 hN rfl rfl (of_decide_eq_true y.1) rfl;replace y:=y.2) | (exact eQuo hN rfl rfl (of_decide_eq_true y.1) rfl;replace y:=y.2) | (exact eRem hN rfl rfl (of_decide_eq_true y.1) rfl;replace y:=y.2) | (exact eShl hN rfl rfl (of_decide_eq_true y.1) rfl;replace y:=y.2) | (exact eShr hN rfl rfl (of_decide_eq_true y.1) rfl;replace y:=y.2))
      | (apply tC;first | exact eLnD hN rfl rfl rfl | exact eLnS hN rfl rfl rfl | exact eLnN hN rfl rfl | exact eLnT hN rfl rfl | exact eLnL hN rfl rfl | exact eMin hN rfl rfl rfl | exact eMax hN rfl rfl rfl)
      | (exact eIxD hN rfl rfl y.1 rfl rfl;replace y:=y.2) | (exact eIxS hN rfl rfl rfl y.1 rfl rfl;replace y:=y.2) | (exact eIxO hN rfl rfl rfl y.1 rfl;replace y:=y.2) | (exact eLdR hN rfl rfl y.1 rfl rfl rfl rfl rfl rfl rfl;replace y:=y.2) | (exact eLdO hN rfl rfl y.1 rfl rfl rfl rfl rfl rfl rfl;replace y:=y.2) | (exact eTx hN rfl rfl y.1 rfl;replace y:=y.2) | (exact eCtH hN rfl rfl y.1 rfl;replace y:=y.2) | (exact eCtL hN rfl rfl y.1 rfl;replace y:=y.2) | (exact eCtB hN rfl rfl rfl y.1 rfl;replace y:=y.2)
      | exact eXt hN rfl rfl rfl rfl | exact ePT hN rfl rfl rfl | exact ePF hN rfl rfl rfl | exact ePO hN rfl rfl rfl rfl | exact ePA hN rfl rfl rfl rfl | exact eNot hN rfl rfl | exact eCv6 hN rfl rfl | exact eCv hN rfl rfl | exact eNeg6 hN rfl rfl | exact eNeg hN rfl rfl | exact eInv hN rfl rfl | exact eNcP hN rfl rfl rfl | exact eNcD hN rfl rfl | exact eBd hN rfl (by kernel_rfl) rfl rfl rfl | exact eBv hN rfl (by kernel_rfl) rfl rfl | exact eBs hN rfl rfl rfl rfl (by kernel_rfl) rfl rfl rfl rfl rfl rfl rfl)
  | (refine KV y.1 ?_;replace y:=y.2)
  | refine K1 (gU hN rfl rfl rfl rfl) ?_
  | refine K1 (gV hN rfl rfl rfl) ?_
  | refine KU0 rfl rfl rfl ?_
  | refine KV0 rfl rfl ?_
  | (apply K1;apply gO;exact hN;exact rfl;exact rfl;(first | exact GuardV.plain _ | exact GuardV.opt _ _);(first
      | exact eLdB hN rfl rfl rfl rfl rfl rfl rfl rfl | exact eLdD hN rfl rfl rfl rfl | exact eFP hN rfl rfl rfl inferInstance rfl | exact eFD hN rfl rfl inferInstance rfl rfl rfl | exact eMv hN rfl rfl | exact eAs hN rfl rfl
      | (apply tB;first | exact eBin hN rfl rfl rfl rfl | exact eQuo6 hN rfl rfl (by decide) rfl | exact eQuo hN rfl rfl (by decide) rfl | exact eRem hN rfl rfl (by decide) rfl | exact eShl hN rfl rfl (by first | decide | exact A37 rfl _) rfl | exact eShr hN rfl rfl (by first | decide | exact A37 rfl _) rfl | exact eEqB hN rfl rfl rfl | exact eNeB hN rfl rfl rfl | exact eEqD hN rfl rfl rfl | exact eNeD hN rfl rfl rfl | (exact eQuo6 hN rfl rfl (of_decide_eq_true y.1) rfl;replace y:=y.2) | (exact eQuo hN rfl rfl (of_decide_eq_true y.1) rfl;replace y:=y.2) | (exact eRem hN rfl rfl (of_decide_eq_true y.1) rfl;replace y:=y.2) | (exact eShl hN rfl rfl (of_decide_eq_true y.1) rfl;replace y:=y.2) | (exact eShr hN rfl rfl (of_decide_eq_true y.1) rfl;replace y:=y.2))
      | (apply tC;first | exact eLnD hN rfl rfl rfl | exact eLnS hN rfl rfl rfl | exact eLnN hN rfl rfl | exact eLnT hN rfl rfl | exact eLnL hN rfl rfl | exact eMin hN rfl rfl rfl | exact eMax hN rfl rfl rfl)
      | (exact eIxD hN rfl rfl y.1 rfl rfl;replace y:=y.2) | (exact eIxS hN rfl rfl rfl y.1 rfl rfl;replace y:=y.2) | (exact eIxO hN rfl rfl rfl y.1 rfl;replace y:=y.2) | (exact eLdR hN rfl rfl y.1 rfl rfl rfl rfl rfl rfl rfl;replace y:=y.2) | (exact eLdO hN rfl rfl y.1 rfl rfl rfl rfl rfl rfl rfl;replace y:=y.2) | (exact eTx hN rfl rfl y.1 rfl;replace y:=y.2) | (exact eCtH hN rfl rfl y.1 rfl;replace y:=y.2) | (exact eCtL hN rfl rfl y.1 rfl;replace y:=y.2) | (exact eCtB hN rfl rfl rfl y.1 rfl;replace y:=y.2)
      | exact eXt hN rfl rfl rfl rfl | exact ePT hN rfl rfl rfl | exact ePF hN rfl rfl rfl | exact ePO hN rfl rfl rfl rfl | exact ePA hN rfl rfl rfl rfl | exact eNot hN rfl rfl | exact eCv6 hN rfl rfl | exact eCv hN rfl rfl | exact eNeg6 hN rfl rfl | exact eNeg hN rfl rfl | exact eInv hN rfl rfl | exact eNcP hN rfl rfl rfl | exact eNcD hN rfl rfl | exact eBd hN rfl (by kernel_rfl) rfl rfl rfl | exact eBv hN rfl (by kernel_rfl) rfl rfl | exact eBs hN rfl rfl rfl rfl (by kernel_rfl) rfl rfl rfl rfl rfl rfl rfl);exact rfl;exact rfl;(repeat first | exact RdO.nil | refine RdO.keep rfl rfl ?_ | refine RdO.opt rfl ?_);exact rfl)
  | (refine KG (gTG rfl rfl (eCl hB hN y.1 rfl (by repeat first | exact .nil | refine .eq (by with_reducible_and_instances exact rfl) ?_ | refine .eq (by exact rfl) ?_ | refine .co rfl (by repeat first | exact Co.d _ | exact Co.nils _ | exact CoL.nil | refine Co.st ?_ | refine CoL.cons ?_ ?_) ?_) rfl rfl rfl rfl)) ?_;replace y:=y.2)
  | refine KW (gTG rfl rfl (eAl hB hN rfl rfl)) ?_
  | refine KW (gTG rfl rfl (eBx hB hN rfl rfl rfl rfl rfl)) ?_
  | refine KS (gTG rfl rfl (eSt rfl rfl rfl rfl rfl rfl rfl rfl rfl)) ?_
  | (refine KA (gTG rfl rfl (eAp hB hN rfl rfl rfl rfl y.1 rfl rfl rfl (by intro;rfl) (by decide) rfl)) ?_;replace y:=y.2)
  | (refine KW (gTG rfl rfl (eApN hB hN rfl rfl y.1 rfl rfl (by intro;rfl) (by decide) rfl)) ?_;replace y:=y.2)
  | (refine KW (gTG rfl rfl (eMk hB hN rfl rfl y.1 rfl rfl rfl (by decide) rfl)) ?_;replace y:=y.2)
  | (refine KG (gTG rfl rfl (eCV hB hN y.1 rfl rfl rfl (by repeat first | exact .nil | refine .eq (by with_reducible_and_instances exact rfl) ?_ | refine .eq (by exact rfl) ?_ | refine .co rfl (by repeat first | exact Co.d _ | exact Co.nils _ | exact CoL.nil | refine Co.st ?_ | refine CoL.cons ?_ ?_) ?_) rfl rfl rfl rfl rfl)) ?_;replace y:=y.2)
  | (refine KS (gTG rfl rfl (eStR rfl rfl rfl y.1 y.2.1 rfl rfl rfl rfl rfl rfl rfl)) ?_;replace y:=y.2.2)
  | (refine KG (gTG rfl rfl (eCl0 hB y.1 rfl (by repeat first | exact .nil | refine .eq (by with_reducible_and_instances exact rfl) ?_ | refine .eq (by exact rfl) ?_ | refine .co rfl (by repeat first | exact Co.d _ | exact Co.nils _ | exact CoL.nil | refine Co.st ?_ | refine CoL.cons ?_ ?_) ?_) rfl rfl rfl)) ?_;replace y:=y.2))):Sq P B ops E O os effs E' O':=SqK.sq (s y)
end
end Go.Vc
