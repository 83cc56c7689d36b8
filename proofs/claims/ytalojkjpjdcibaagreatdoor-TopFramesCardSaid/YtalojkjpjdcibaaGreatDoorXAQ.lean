/- Part of the proof that 'TopFrames' holds of every input: no condition. -/
import Derived.Test.YtalojkjpjdcibaaGreatDoorRows
import Derived.Test.YtalojkjpjdcibaaGreatDoorCards
import Derived.Test.YtalojkjpjdcibaaGreatDoorTie
import Derived.SevenTiedAt
import Derived.Lay
import Derived.Stop.Joined
import Derived.Test.YtalojkjpjdcibaaGreatDoorXAC
import Derived.Test.YtalojkjpjdcibaaGreatDoorXAD
import Derived.Test.YtalojkjpjdcibaaGreatDoorXAM
import Derived.Test.YtalojkjpjdcibaaGreatDoorXAP
namespace Go.Proofs.YtalojkjpjdcibaaGreatDoor
open Go Go.Vc Go.Top Go.ChangeShapes Go.WideShapes Go.ChangeAt Go.RowKit
theorem own:ownKnob Tryz.prog.godebug=none:=by kernel_rfl
theorem laid:laidOutB Tryz.prog=true:=by kernel_rfl
def Dw:List (String×DataW Unit):=[("math/bits.deBruijn32tab",Rows.laid_math_bits_deBruijn32tab),("math/bits.deBruijn64tab",Rows.laid_math_bits_deBruijn64tab),("internal/strconv.uint64pow10",Rows.laid_internal_strconv_uint64pow10),("unicode/utf8.acceptRanges",Rows.laid_unicode_utf8_acceptRanges),("strconv.ErrRange",Rows.laid_strconv_ErrRange),("strconv.ErrSyntax",Rows.laid_strconv_ErrSyntax),("exchangepoint/arp.head",Rows.laid_exchangepoint_arp_head),("unicode/utf8.first",Rows.laid_unicode_utf8_first)]
set_option maxRecDepth 100000 in
theorem A9d (os:Os) (args:Array Value):laidMetH Tryz.prog Dw ((World.laidAll Tryz.prog os Dw).forCall (λ_ _=>0) ⟨#[],args,[]⟩).memory:=by
 unfold laidMetH;rw [show(Dw.filter λx=>x.2.handleName?.isSome)=[] by kernel_rfl];exact laidMet_laidAll _ (by kernel_rfl) (by kernel_rfl)
set_option maxRecDepth 100000 in
theorem C2g (os:Os):((World.laidAll Tryz.prog os Dw).forCall (λ_ _=>0) ⟨#[],#[.slice none 0 0],[]⟩).Shaped Tryz.prog:=World.shaped_of_ZipB (by kernel_rfl) (by kernel_rfl)
set_option maxRecDepth 100000 in
theorem C2h {W:World} (h:laidMetH Tryz.prog Dw W):(L2 0 (.arr 6 1 (hd6.map (eI .u8)))).holds (Zw W) W :=
 Ln (kd:=.u8) (es:=hd6) h (List.mem_cons_of_mem _ (List.mem_cons_of_mem _ (List.mem_cons_of_mem _ (List.mem_cons_of_mem _ (List.mem_cons_of_mem _ (List.mem_cons_of_mem _ List.mem_cons_self)))))) (by kernel_rfl) (by kernel_rfl) Tryz.underlying23 Tryz.underlying5 (by kernel_rfl) (by kernel_rfl) rfl (by decide) rfl
set_option maxRecDepth 100000 in
theorem C2i {W:World} (h:laidMetH Tryz.prog Dw W):(L2 2 (.arr 20 1 (pw.map (eI .u64)))).holds (Zw W) W :=
 Ln (kd:=.u64) (es:=pw) h (List.mem_cons_of_mem _ (List.mem_cons_of_mem _ List.mem_cons_self)) (by kernel_rfl) (by kernel_rfl) Tryz.underlying315 Tryz.underlying27 (by kernel_rfl) (by kernel_rfl) rfl (by decide) rfl
set_option maxRecDepth 100000 in
theorem C2j {W:World} (h:laidMetH Tryz.prog Dw W):(L2 8 (.arr 64 1 (R5.map (eI .u8)))).holds (Zw W) W :=
 Ln (kd:=.u8) (es:=R5) h (List.mem_cons_of_mem _ List.mem_cons_self) (by kernel_rfl) (by kernel_rfl) Tryz.underlying342 Tryz.underlying5 (by kernel_rfl) (by kernel_rfl) rfl (by decide) rfl
def A3q (m:Int):List (Nat×Ou):=[(0,L2 0 (.arr 6 1 (hd6.map (eI .u8)))),(1,L2 1 (eI .i64 m)),(2,L2 2 (.arr 20 1 (pw.map (eI .u64)))),(3,L2 8 (.arr 64 1 (R5.map (eI .u8))))]
theorem B98:Tryz.prog.cellsOf 3=1:=by kernel_rfl
theorem B4n:Tryz.prog.cellsOf 22=1:=by kernel_rfl
theorem rd3:Rd Tryz.prog 3 1 false (λd=>∃ x:Int,(IntKind.i64.min<=x∧x<=IntKind.i64.max)∧d=eI .i64 x):=Rd.int Tryz.underlying3 B98
theorem C63:Rd Tryz.prog 22 1 false (λd=>∃ x:List Int,((∀ y∈x,IntKind.i64.min<=y∧y<=IntKind.i64.max)∧x.length<=maxLen)∧d = .list 1 (x.map (eI .i64))):=Rd.list Tryz.underlying22 B4n (by decide) rd3
theorem B6r (m:Int) (xs:List D) (h:FA [(λd=>∃ x:List Int,((∀ y∈x,IntKind.i64.min<=y∧y<=IntKind.i64.max)∧x.length<=maxLen)∧d = .list 1 (x.map (eI .i64)))] xs):AC Tryz.prog 5 (xs.map .d) (Kc (A3q m)) (.d (.bool true)) (B4x (A3q m)):=by
 obtain⟨_,xs0,rfl,⟨a0,k0,rfl⟩,h0⟩:=FA.cons h;obtain rfl:=FA.nil h0;have hr:=o5 (a0,hd6,m,pw,R5) true (C01 (by have:=k0.2;simpa [maxLen] using this) m);exact hr
theorem C65:Program.readableRec Tryz.prog 3=true∧3<Tryz.prog.types.size:=⟨by kernel_rfl,of_decide_eq_true (by kernel_rfl)⟩
theorem B99:Program.readableRec Tryz.prog 22=true∧22<Tryz.prog.types.size:=⟨by kernel_rfl,of_decide_eq_true (by kernel_rfl)⟩
theorem reads:∀ t∈([22]:List TypeId),Program.readableRec Tryz.prog t=true∧t<Tryz.prog.types.size:=by
 intro t ht;cases ht with
 | head=>exact B99
 | tail _ ht =>
 cases ht
set_option maxRecDepth 100000 in
theorem C2k {W:World} (h:W.ShapedOpen Tryz.prog):∃ m,(L2 1 (eI .i64 m)).holds (Zw W) W :=
 A40 (zero:=#[.int .i64 0]) (t:=3) h (of_decide_eq_true (by kernel_rfl)) (by kernel_rfl) rfl (by kernel_rfl) (by kernel_rfl) Tryz.underlying3
set_option maxRecDepth 100000 in
theorem B9a (os:Os) (started:os.Started) (H:Type) (enc:TypeId×Value->H) :
  ReturnsInHanded {} Tryz.checked os 5 .any (λw args=>(Rows.topFramesSpec.pre enc Tryz.prog Tryz.f5 [] false w args∧laidMetH Tryz.prog Dw w)∧sizedMet enc Tryz.prog Tryz.f5 (OpenSpec.ofChange Rows.topFramesSpec) false w args)
   (Rows.topFramesSpec.post enc Tryz.prog Tryz.f5 false true false false):=by
 refine Ex (C:=Tryz.checked) (X:=λw _=>laidMetH Tryz.prog Dw w) (λ_ _ _ hh h=>h.of_heap hh) own started (by kernel_rfl) Tryz.func5
  (ChangeSpec.witness_shaped (enc:=enc) (C:=Tryz.checked) (os:=os) (X:=λw _=>laidMetH Tryz.prog Dw w) false (World.laidAll Tryz.prog os Dw) #[.slice none 0 0] 8 (World.laidAll_os _ _ _) (C2g os) (by kernel_rfl) (by kernel_rfl) (by kernel_rfl) (A9d os _)) ?_
 intro W base args ds gs before hval0 hW hsh hL;obtain⟨m,hm⟩:=C2k hsh;have hk:∀ p∈A3q m,p.2.holds (Zw W) W:=λp hp=>by
  cases hp with
  | head=>exact C2h hL
  | tail _ hp =>
  cases hp with
  | head=>exact hm
  | tail _ hp =>
  cases hp with
  | head=>exact C2i hL
  | tail _ hp =>
  cases hp with
  | head=>exact C2j hL
  | tail _ hp=>cases hp
 exact Yf (P:=Tryz.prog) (ts:=[22]) (tb:=4) (A3q m) hk hval0 hW rfl rfl (.cons C63 .nil) Tryz.underlying4 (by kernel_rfl) laid reads
  (λds hl=>by match ds,hl with | [_],_=>rfl) (B6r m)
theorem A5y:Rows.TopFramesSaid :=
 OpenClaim.holds_of_wide 5 Tryz.f5 rfl rfl rfl rfl rfl rfl rfl ⟨rfl,rfl,rfl,rfl,rfl⟩ rfl rfl rfl rfl rfl named Tryz.func5 B6u B6v B6w
  (λos started H enc _=>B9a os started H enc)
end Go.Proofs.YtalojkjpjdcibaaGreatDoor
