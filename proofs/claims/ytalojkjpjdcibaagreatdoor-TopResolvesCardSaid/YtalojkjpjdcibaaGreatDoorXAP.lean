/- Part of the proof that 'TopResolves' holds of every input: no condition. -/
import Derived.Test.YtalojkjpjdcibaaGreatDoorRows
import Derived.Test.YtalojkjpjdcibaaGreatDoorCards
import Derived.Test.YtalojkjpjdcibaaGreatDoorTie
import Derived.SevenTiedAt
import Derived.Lay
import Derived.Stop.Joined
import Derived.Test.YtalojkjpjdcibaaGreatDoorXAC
import Derived.Test.YtalojkjpjdcibaaGreatDoorXAD
import Derived.Test.YtalojkjpjdcibaaGreatDoorXAL
import Derived.Test.YtalojkjpjdcibaaGreatDoorXAO
namespace Go.Proofs.YtalojkjpjdcibaaGreatDoor
open Go Go.Vc Go.Top Go.ChangeShapes Go.WideShapes Go.ChangeAt Go.RowKit
theorem own:ownKnob Tryz.prog.godebug=none:=by kernel_rfl
theorem laid:laidOutB Tryz.prog=true:=by kernel_rfl
def laidL:List (String×DataW Unit):=[("math/bits.deBruijn32tab",Rows.laid_math_bits_deBruijn32tab),("math/bits.deBruijn64tab",Rows.laid_math_bits_deBruijn64tab),("internal/strconv.uint64pow10",Rows.laid_internal_strconv_uint64pow10),("unicode/utf8.acceptRanges",Rows.laid_unicode_utf8_acceptRanges),("strconv.ErrRange",Rows.laid_strconv_ErrRange),("strconv.ErrSyntax",Rows.laid_strconv_ErrSyntax),("exchangepoint/arp.head",Rows.laid_exchangepoint_arp_head),("unicode/utf8.first",Rows.laid_unicode_utf8_first)]
set_option maxRecDepth 100000 in
theorem B28 (os:Os) (args:Array Value):laidMetH Tryz.prog laidL ((World.laidAll Tryz.prog os laidL).forCall (fun _ _=>0) ⟨#[],args,[]⟩).memory:=by
  unfold laidMetH;rw [show(laidL.filter fun x=>x.2.handleName?.isSome)=[] by kernel_rfl];exact laidMet_laidAll _ (by kernel_rfl) (by kernel_rfl)
set_option maxRecDepth 100000 in
theorem shape (os:Os):((World.laidAll Tryz.prog os laidL).forCall (fun _ _=>0) ⟨#[],#[.slice none 0 0,.int .i64 0,.int .i64 0],[]⟩).Shaped Tryz.prog:=World.shaped_of_ZipB (by kernel_rfl) (by kernel_rfl)
set_option maxRecDepth 100000 in
theorem glob0 {W:World} (h:laidMetH Tryz.prog laidL W):(globD 0 (.arr 6 1 (hd6.map (eI .u8)))).holds (Zw W) W :=
  A0q (kd:=.u8) (es:=hd6) h (List.mem_cons_of_mem _ (List.mem_cons_of_mem _ (List.mem_cons_of_mem _ (List.mem_cons_of_mem _ (List.mem_cons_of_mem _ (List.mem_cons_of_mem _ List.mem_cons_self)))))) (by kernel_rfl) (by kernel_rfl) Tryz.underlying23 Tryz.underlying5 (by kernel_rfl) (by kernel_rfl) rfl (by decide) rfl
set_option maxRecDepth 100000 in
theorem glob2 {W:World} (h:laidMetH Tryz.prog laidL W):(globD 2 (.arr 20 1 (pw.map (eI .u64)))).holds (Zw W) W :=
  A0q (kd:=.u64) (es:=pw) h (List.mem_cons_of_mem _ (List.mem_cons_of_mem _ List.mem_cons_self)) (by kernel_rfl) (by kernel_rfl) Tryz.underlying315 Tryz.underlying27 (by kernel_rfl) (by kernel_rfl) rfl (by decide) rfl
set_option maxRecDepth 100000 in
theorem glob8 {W:World} (h:laidMetH Tryz.prog laidL W):(globD 8 (.arr 64 1 (deBr.map (eI .u8)))).holds (Zw W) W :=
  A0q (kd:=.u8) (es:=deBr) h (List.mem_cons_of_mem _ List.mem_cons_self) (by kernel_rfl) (by kernel_rfl) Tryz.underlying342 Tryz.underlying5 (by kernel_rfl) (by kernel_rfl) rfl (by decide) rfl
def knows (m:Int):List (Nat×Know):=[(0,globD 0 (.arr 6 1 (hd6.map (eI .u8)))),(1,globD 1 (eI .i64 m)),(2,globD 2 (.arr 20 1 (pw.map (eI .u64)))),(3,globD 8 (.arr 64 1 (deBr.map (eI .u8))))]
theorem cells3:Tryz.prog.cellsOf 3=1:=by kernel_rfl
theorem cells22:Tryz.prog.cellsOf 22=1:=by kernel_rfl
theorem rd3:Rd Tryz.prog 3 1 false (fun d=>∃ x:Int,(IntKind.i64.min≤x∧x≤IntKind.i64.max)∧d=eI .i64 x):=Rd.int Tryz.underlying3 cells3
theorem rd22:Rd Tryz.prog 22 1 false (fun d=>∃ x:List Int,((∀ y∈x,IntKind.i64.min≤y∧y≤IntKind.i64.max)∧x.length≤maxLen)∧d = .list 1 (x.map (eI .i64))):=Rd.list Tryz.underlying22 cells22 (by decide) rd3
theorem B5w (m:Int) (xs:List D) (h:FA [(fun d=>∃ x:List Int,((∀ y∈x,IntKind.i64.min≤y∧y≤IntKind.i64.max)∧x.length≤maxLen)∧d = .list 1 (x.map (eI .i64))),(fun d=>∃ x:Int,(IntKind.i64.min≤x∧x≤IntKind.i64.max)∧d=eI .i64 x),(fun d=>∃ x:Int,(IntKind.i64.min≤x∧x≤IntKind.i64.max)∧d=eI .i64 x)] xs):AC Tryz.prog 4 (xs.map .d) (knowP (knows m)) (.d (.bool true)) (knowO (knows m)):=by
  obtain⟨_,xs0,rfl,⟨a0,k0,rfl⟩,h0⟩:=FA.cons h;obtain⟨_,xs1,rfl,⟨a1,k1,rfl⟩,h1⟩:=FA.cons h0;obtain⟨_,xs2,rfl,⟨a2,k2,rfl⟩,h2⟩:=FA.cons h1;obtain rfl:=FA.nil h2;have hr:=o4 (a0,a1,a2,hd6,m,pw,deBr) true (B6q (by have:=k0.2;simpa [maxLen] using this) a1 a2 m);exact hr
theorem read3:Program.readableRec Tryz.prog 3=true∧3<Tryz.prog.types.size:=⟨by kernel_rfl,of_decide_eq_true (by kernel_rfl)⟩
theorem read22:Program.readableRec Tryz.prog 22=true∧22<Tryz.prog.types.size:=⟨by kernel_rfl,of_decide_eq_true (by kernel_rfl)⟩
theorem reads:∀ t∈([22,3,3]:List TypeId),Program.readableRec Tryz.prog t=true∧t<Tryz.prog.types.size:=by
  intro t ht;cases ht with
  | head=>exact read22
  | tail _ ht =>
  cases ht with
  | head=>exact read3
  | tail _ ht =>
  cases ht with
  | head=>exact read3
  | tail _ ht =>
  cases ht
set_option maxRecDepth 100000 in
theorem some1 {W:World} (h:W.ShapedOpen Tryz.prog):∃ m,(globD 1 (eI .i64 m)).holds (Zw W) W :=
  A8b (zero:=#[.int .i64 0]) (t:=3) h (of_decide_eq_true (by kernel_rfl)) (by kernel_rfl) rfl (by kernel_rfl) (by kernel_rfl) Tryz.underlying3
set_option maxRecDepth 100000 in
theorem lifted (os:Os) (started:os.Started) (H:Type) (enc:TypeId×Value→H) :
    ReturnsInHanded {} Tryz.checked os 4 .any (fun w args=>(Rows.topResolvesSpec.pre enc Tryz.prog Tryz.f4 [] false w args∧laidMetH Tryz.prog laidL w)∧sizedMet enc Tryz.prog Tryz.f4 (OpenSpec.ofChange Rows.topResolvesSpec) false w args)
      (Rows.topResolvesSpec.post enc Tryz.prog Tryz.f4 false true false false):=by
  refine T9 (C:=Tryz.checked) (X:=fun w _=>laidMetH Tryz.prog laidL w) (fun _ _ _ hh h=>h.of_heap hh) own started (by kernel_rfl) Tryz.func4
    (ChangeSpec.witness_shaped (enc:=enc) (C:=Tryz.checked) (os:=os) (X:=fun w _=>laidMetH Tryz.prog laidL w) false (World.laidAll Tryz.prog os laidL) #[.slice none 0 0,.int .i64 0,.int .i64 0] 8 (World.laidAll_os _ _ _) (shape os) (by kernel_rfl) (by kernel_rfl) (by kernel_rfl) (B28 os _)) ?_
  intro W base args ds gs before hval0 hW hsh hL;obtain⟨m,hm⟩:=some1 hsh;have hk:∀ p∈knows m,p.2.holds (Zw W) W:=fun p hp=>by
    cases hp with
    | head=>exact glob0 hL
    | tail _ hp =>
    cases hp with
    | head=>exact hm
    | tail _ hp =>
    cases hp with
    | head=>exact glob2 hL
    | tail _ hp =>
    cases hp with
    | head=>exact glob8 hL
    | tail _ hp=>cases hp
  exact A5b (P:=Tryz.prog) (ts:=[22,3,3]) (tb:=4) (knows m) hk hval0 hW rfl rfl (.cons rd22 (.cons rd3 (.cons rd3 .nil))) Tryz.underlying4 (by kernel_rfl) laid reads
    (fun ds hl=>by match ds,hl with | [_,_,_],_=>rfl) (B5w m)
theorem A9t:Rows.TopResolvesSaid :=
  OpenClaim.holds_of_wide 4 Tryz.f4 rfl rfl rfl rfl rfl rfl rfl ⟨rfl,rfl,rfl,rfl,rfl⟩ rfl rfl rfl rfl rfl named Tryz.func4 joined isInst isWrap
    (fun os started H enc _=>lifted os started H enc)
end Go.Proofs.YtalojkjpjdcibaaGreatDoor
