/- A region is walked by search: the default argument of this lemma does it. -/
import Derived.Test.YtgfoabcickjphaaGreatDoorVcGB
import Derived.KernelRfl
namespace Go.Vc
open Go
variable {P : Program} {B : Base} {E : EL} {O : OL} {Q : Exit → EL → OL → Prop} {ops : Array Oper}
/-- of what kind an operation is: only the rules of its kind are tried -/
def opG : Op → Nat
  | .fieldAddr .. => 0
  | .load .. => 1
  | .indexAddr .. => 2
  | .index .. => 2
  | .binOp .. => 3
  | .call .. => 4
  | .move _ => 5
  | .assign _ => 5
  | .extract .. => 5
  | .pick .. => 6
  | .unOp .. => 7
  | .convert .. => 7
  | .nilCheck _ => 8
  | .slice .. => 9
  | _ => 10
def opK (o : Oper) : Nat :=
  match o.op with
  | .alloc _ => 3
  | .box .. => 3
  | .store .. => 4
  | .makeSlice .. => 5
  | .call c => match c.callee with
    | .builtin .append => 5
    | .builtin _ => 0
    | _ => 1
  | _ => 0
theorem tU {d : Option Nat} {op : Op} {ty : TypeId} {pos : String} {af : Array Edge} {os : List Oper} {K : List Eff → EL → OL → Prop} (h : SqK P B ops E O (⟨d, op, ty, pos, af, none⟩ :: os) K) : SqK P B ops E O (⟨d, op, ty, pos, af, none⟩ :: os) K := h
theorem tN {d : Option Nat} {op : Op} {ty : TypeId} {pos : String} {af : Array Edge} {e : Eff} (h : EG P B ops E O ⟨d, op, ty, pos, af, none⟩ e) : EG P B ops E O ⟨d, op, ty, pos, af, none⟩ e := h
theorem tO {d : Option Nat} {op : Op} {ty : TypeId} {pos : String} {af : Array Edge} {d' : Nat} {nt : EL} {no : List (Nat × Ob)} {v : V} (h : E1 P B ops E O ⟨d, op, ty, pos, af, none⟩ d' nt no v) : E1 P B ops E O ⟨d, op, ty, pos, af, none⟩ d' nt no v := h
theorem tG {d : Option Nat} {op : Op} {ty : TypeId} {pos : String} {af : Array Edge} {g : Option (Nat × Bool)} {d' : Nat} {nt : EL} {no : List (Nat × Ob)} {v : V} (k : Nat) (_ : Nat.beq (opG op) k = true) (h : E1 P B ops E O ⟨d, op, ty, pos, af, g⟩ d' nt no v) : E1 P B ops E O ⟨d, op, ty, pos, af, g⟩ d' nt no v := h
theorem tK {o : Oper} {os : List Oper} {K : List Eff → EL → OL → Prop} (k : Nat) (_ : Nat.beq (opK o) k = true) (h : SqK P B ops E O (o :: os) K) : SqK P B ops E O (o :: os) K := h
section
variable {p : Prop} {id : Nat} {os : List Oper} {effs : List Eff} {E' : EL} {O' : OL} {c2 : Code}
theorem SQ (y : p) (s : p → ∀ K : List Eff → EL → OL → Prop, K effs E' O' → SqK P B ops E O os K := by
  intro y K hk
  repeat (first
    | (apply tK 0 rfl; apply K1; (first | apply tO | (apply gT; exact rfl; exact rfl)); first | (apply tG 0 rfl; first | exact eFP hN rfl rfl rfl inferInstance rfl | exact eFD hN rfl rfl inferInstance rfl rfl rfl) | (apply tG 1 rfl; first | exact eLdB hN rfl rfl rfl rfl rfl rfl rfl rfl | exact eLdD hN rfl rfl rfl rfl | (exact eLdR hN rfl rfl y.1 rfl rfl rfl rfl rfl rfl rfl; replace y := y.2) | (exact eLdO hN rfl rfl y.1 rfl rfl rfl rfl rfl rfl rfl; replace y := y.2)) | (apply tG 2 rfl; first | (exact eIxD hN rfl rfl y.1 rfl rfl; replace y := y.2) | (exact eIxS hN rfl rfl rfl y.1 rfl rfl; replace y := y.2) | (exact eIxO hN rfl rfl rfl y.1 rfl; replace y := y.2) | (exact eTx hN rfl rfl y.1 rfl; replace y := y.2)) | (apply tG 3 rfl; first | exact eBin hN rfl rfl rfl rfl | exact eQuo6 hN rfl rfl (by decide) rfl | exact eQuo hN rfl rfl (by decide) rfl | exact eRem hN rfl rfl (by decide) rfl | exact eShl hN rfl rfl (by first | decide | exact wrap_nonneg rfl _) rfl | exact eShr hN rfl rfl (by first | decide | exact wrap_nonneg rfl _) rfl | exact eEqB hN rfl rfl rfl | exact eNeB hN rfl rfl rfl | (exact eQuo6 hN rfl rfl (of_decide_eq_true y.1) rfl; replace y := y.2) | (exact eQuo hN rfl rfl (of_decide_eq_true y.1) rfl; replace y := y.2) | (exact eRem hN rfl rfl (of_decide_eq_true y.1) rfl; replace y := y.2) | (exact eShl hN rfl rfl (of_decide_eq_true y.1) rfl; replace y := y.2) | (exact eShr hN rfl rfl (of_decide_eq_true y.1) rfl; replace y := y.2)) | (apply tG 4 rfl; first | exact eLnD hN rfl rfl rfl | exact eLnS hN rfl rfl rfl | exact eLnN hN rfl rfl | exact eLnT hN rfl rfl | exact eLnL hN rfl rfl | exact eMin hN rfl rfl rfl | exact eMax hN rfl rfl rfl) | (apply tG 5 rfl; first | exact eMv hN rfl rfl | exact eAs hN rfl rfl | exact eXt hN rfl rfl rfl rfl) | (apply tG 6 rfl; first | exact ePT hN rfl rfl rfl | exact ePF hN rfl rfl rfl | exact ePO hN rfl rfl rfl rfl | exact ePA hN rfl rfl rfl rfl) | (apply tG 7 rfl; first | exact eNot hN rfl rfl | exact eCv6 hN rfl rfl | exact eCv hN rfl rfl | exact eNeg6 hN rfl rfl | exact eNeg hN rfl rfl | exact eInv hN rfl rfl) | (apply tG 8 rfl; first | exact eNcP hN rfl rfl rfl | exact eNcD hN rfl rfl) | (apply tG 10 rfl; first | exact eBd hN rfl (by kernel_rfl) rfl rfl rfl | exact eBv hN rfl (by kernel_rfl) rfl rfl | exact eBs hN rfl rfl rfl rfl (by kernel_rfl) rfl rfl rfl rfl rfl rfl rfl))
    | (apply tK 1 rfl; (first | apply tU | (refine KV y.1 ?_; replace y := y.2) | skip); first | (apply KG; (first | apply tN | (apply gTG; exact rfl; exact rfl)); exact eCl hB hN y.1 rfl (by repeat first | exact .nil | refine .eq (by with_reducible_and_instances exact rfl) ?_ | refine .eq (by exact rfl) ?_ | refine .co rfl (by repeat first | exact Co.d _ | exact Co.nils _ | exact CoL.nil | refine Co.st ?_ | refine CoL.cons ?_ ?_) ?_) rfl rfl rfl rfl; replace y := y.2) | (apply KG; (first | apply tN | (apply gTG; exact rfl; exact rfl)); exact eCV hB hN y.1 rfl rfl rfl (by repeat first | exact .nil | refine .eq (by with_reducible_and_instances exact rfl) ?_ | refine .eq (by exact rfl) ?_ | refine .co rfl (by repeat first | exact Co.d _ | exact Co.nils _ | exact CoL.nil | refine Co.st ?_ | refine CoL.cons ?_ ?_) ?_) rfl rfl rfl rfl rfl; replace y := y.2) | (apply KG; (first | apply tN | (apply gTG; exact rfl; exact rfl)); exact eCl0 hB y.1 rfl (by repeat first | exact .nil | refine .eq (by with_reducible_and_instances exact rfl) ?_ | refine .eq (by exact rfl) ?_ | refine .co rfl (by repeat first | exact Co.d _ | exact Co.nils _ | exact CoL.nil | refine Co.st ?_ | refine CoL.cons ?_ ?_) ?_) rfl rfl rfl; replace y := y.2))
    | (apply tK 3 rfl; (first | apply tU | (refine KV y.1 ?_; replace y := y.2) | skip); first | (apply KW; (first | apply tN | (apply gTG; exact rfl; exact rfl)); exact eAl hB hN rfl rfl) | (apply KW; (first | apply tN | (apply gTG; exact rfl; exact rfl)); exact eBx hB hN rfl rfl rfl rfl rfl))
    | (apply tK 4 rfl; (first | apply tU | (refine KV y.1 ?_; replace y := y.2) | skip); first | (apply KS; (first | apply tN | (apply gTG; exact rfl; exact rfl)); exact eSt rfl rfl rfl rfl rfl rfl rfl rfl rfl) | (apply KS; (first | apply tN | (apply gTG; exact rfl; exact rfl)); exact eStR rfl rfl rfl y.1 y.2.1 rfl rfl rfl rfl rfl rfl rfl; replace y := y.2.2))
    | (apply tK 5 rfl; (first | apply tU | (refine KV y.1 ?_; replace y := y.2) | skip); first | (apply KA; (first | apply tN | (apply gTG; exact rfl; exact rfl)); exact eAp hB hN rfl rfl rfl rfl y.1 rfl rfl rfl (by intro; rfl) (by decide) rfl; replace y := y.2) | (apply KW; (first | apply tN | (apply gTG; exact rfl; exact rfl)); exact eApN hB hN rfl rfl y.1 rfl rfl (by intro; rfl) (by decide) rfl; replace y := y.2) | (apply KW; (first | apply tN | (apply gTG; exact rfl; exact rfl)); exact eMk hB hN rfl rfl y.1 rfl rfl rfl (by decide) rfl; replace y := y.2))
    | exact K0 hk
    | (refine KV y.1 ?_; replace y := y.2)
    | refine K1 (gU hN rfl rfl rfl rfl) ?_
    | refine K1 (gV hN rfl rfl rfl) ?_
    | refine KU0 rfl rfl rfl ?_
    | refine KV0 rfl rfl ?_
    | (apply K1; apply gO; exact hN; exact rfl; exact rfl; (first | exact GuardV.plain _ | exact GuardV.opt _ _); (first | (apply tG 0 rfl; first | exact eFP hN rfl rfl rfl inferInstance rfl | exact eFD hN rfl rfl inferInstance rfl rfl rfl) | (apply tG 1 rfl; first | exact eLdB hN rfl rfl rfl rfl rfl rfl rfl rfl | exact eLdD hN rfl rfl rfl rfl | (exact eLdR hN rfl rfl y.1 rfl rfl rfl rfl rfl rfl rfl; replace y := y.2) | (exact eLdO hN rfl rfl y.1 rfl rfl rfl rfl rfl rfl rfl; replace y := y.2)) | (apply tG 2 rfl; first | (exact eIxD hN rfl rfl y.1 rfl rfl; replace y := y.2) | (exact eIxS hN rfl rfl rfl y.1 rfl rfl; replace y := y.2) | (exact eIxO hN rfl rfl rfl y.1 rfl; replace y := y.2) | (exact eTx hN rfl rfl y.1 rfl; replace y := y.2)) | (apply tG 3 rfl; first | exact eBin hN rfl rfl rfl rfl | exact eQuo6 hN rfl rfl (by decide) rfl | exact eQuo hN rfl rfl (by decide) rfl | exact eRem hN rfl rfl (by decide) rfl | exact eShl hN rfl rfl (by first | decide | exact wrap_nonneg rfl _) rfl | exact eShr hN rfl rfl (by first | decide | exact wrap_nonneg rfl _) rfl | exact eEqB hN rfl rfl rfl | exact eNeB hN rfl rfl rfl | (exact eQuo6 hN rfl rfl (of_decide_eq_true y.1) rfl; replace y := y.2) | (exact eQuo hN rfl rfl (of_decide_eq_true y.1) rfl; replace y := y.2) | (exact eRem hN rfl rfl (of_decide_eq_true y.1) rfl; replace y := y.2) | (exact eShl hN rfl rfl (of_decide_eq_true y.1) rfl; replace y := y.2) | (exact eShr hN rfl rfl (of_decide_eq_true y.1) rfl; replace y := y.2)) | (apply tG 4 rfl; first | exact eLnD hN rfl rfl rfl | exact eLnS hN rfl rfl rfl | exact eLnN hN rfl rfl | exact eLnT hN rfl rfl | exact eLnL hN rfl rfl | exact eMin hN rfl rfl rfl | exact eMax hN rfl rfl rfl) | (apply tG 5 rfl; first | exact eMv hN rfl rfl | exact eAs hN rfl rfl | exact eXt hN rfl rfl rfl rfl) | (apply tG 6 rfl; first | exact ePT hN rfl rfl rfl | exact ePF hN rfl rfl rfl | exact ePO hN rfl rfl rfl rfl | exact ePA hN rfl rfl rfl rfl) | (apply tG 7 rfl; first | exact eNot hN rfl rfl | exact eCv6 hN rfl rfl | exact eCv hN rfl rfl | exact eNeg6 hN rfl rfl | exact eNeg hN rfl rfl | exact eInv hN rfl rfl) | (apply tG 8 rfl; first | exact eNcP hN rfl rfl rfl | exact eNcD hN rfl rfl) | (apply tG 10 rfl; first | exact eBd hN rfl (by kernel_rfl) rfl rfl rfl | exact eBv hN rfl (by kernel_rfl) rfl rfl | exact eBs hN rfl rfl rfl rfl (by kernel_rfl) rfl rfl rfl rfl rfl rfl rfl)); exact rfl; exact rfl; (repeat first | exact RdO.nil | refine RdO.keep rfl rfl ?_ | refine RdO.opt rfl ?_); exact rfl))) : Sq P B ops E O os effs E' O' := SqK.sq (s y)
end
end Go.Vc
