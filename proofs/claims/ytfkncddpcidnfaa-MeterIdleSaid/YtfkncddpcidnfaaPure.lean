/- Chapter 12, in plain Lean: what the printed functions answer. -/
import Derived.Test.YtfkncddpcidnfaaFns
import Derived.Test.YtfkncddpcidnfaaVcQ
namespace Go.Proofs.Ytfkncddpcidnfaa
open Go Go.Vc

theorem mod_eq (a m : Int) (hm : 0 < m) (hb : m ≤ 4611686018427387904) : exchangepointmake_Mod a m = some (a % m) := by
  obtain ⟨h0, h1⟩ := emod_lt' a hm
  unfold exchangepointmake_Mod
  refine chk_of (by simp; omega) ?_
  unfold jn
  rcases tmod_emod a hm with h | ⟨h, hn⟩
  · rw [h]
    exact ite_of_f (by simp; omega) rfl
  · rw [h]
    refine ite_of_t (by simp; omega) ?_
    rw [show a % m - m + m = a % m from by omega, w64_id (by omega) (by omega)]

/-- what a tick grants, and what is left -/
def gr (lv x : Int) : Int := maxI 0 (minI x lv)
theorem gr_range {lv x : Int} (h : 0 ≤ lv) : 0 ≤ gr lv x ∧ gr lv x ≤ lv ∧ (0 ≤ x → gr lv x ≤ x) := by
  unfold gr maxI minI; split <;> split <;> omega
theorem gr_eq {lv x : Int} (h : 0 ≤ lv) (hx : 0 ≤ x) : gr lv x = min x lv := by
  unfold gr maxI minI; split <;> split <;> omega
def nx (rate burst lv x : Int) : Int := minI (lv - gr lv x + rate) burst
def rstep (rate burst : Int) (b : List Int × Int) (x : Int) : List Int × Int := (b.1 ++ [gr b.2 x], nx rate burst b.2 x)
def runI (rate burst lv : Int) (xs : List Int) : List Int × Int := xs.foldl (rstep rate burst) ([], lv)

theorem nx_range {rate burst lv x : Int} (h : 0 ≤ lv) (hr : 0 ≤ rate) (hrb : rate ≤ burst) : 0 ≤ nx rate burst lv x ∧ nx rate burst lv x ≤ burst := by
  have := gr_range (x := x) h
  unfold nx minI; split <;> omega

theorem run_eq (rate burst lv : Int) (xs : List Int) (h0 : 0 ≤ lv) (h1 : lv ≤ burst) (hr : 0 ≤ rate) (hrb : rate ≤ burst) (hb : burst ≤ 1048576) (hl : xs.length ≤ 4294967296) :
    meter_Run ⟨lv, rate, burst⟩ xs = some (⟨(runI rate burst lv xs).2, rate, burst⟩, (runI rate burst lv xs).1) ∧ (runI rate burst lv xs).1.length = xs.length ∧ 0 ≤ (runI rate burst lv xs).2 ∧ (runI rate burst lv xs).2 ≤ burst := by
  obtain ⟨g1, g2, g3, g4⟩ := loop_range (tb := meter_Run_L0 xs) xs (fun k b => ((k : Int), b.1, (⟨b.2, rate, burst⟩ : api_Bucket))) (rstep rate burst) (fun b => (b.1, (⟨b.2, rate, burst⟩ : api_Bucket)))
    (fun k b => b.1.length = k ∧ 0 ≤ b.2 ∧ b.2 ≤ burst) (fun k b x hx ⟨i1, i2, i3⟩ => by
      have hlt : k < xs.length := (List.getElem?_eq_some_iff.1 hx).1
      have r1 := gr_range (x := x) i2
      have r2 := nx_range (x := x) i2 hr hrb
      refine ⟨⟨by simp [rstep, i1], r2⟩, ?_⟩
      unfold meter_Run_L0
      refine ite_of_t (by simpa using hlt) ?_
      refine bind_of (idx_get hx) ?_
      refine bind_of rfl ?_
      refine chk_of (by simp [LIM, i1]; omega) ?_
      show some (Sum.inr (w64 (↑k + 1), b.1 ++ [gr b.2 x], (⟨minI (w64 (w64 (b.2 - gr b.2 x) + rate)) burst, rate, burst⟩ : api_Bucket))) = _
      rw [w64_id (n := (k : Int) + 1) (by omega) (by omega), w64_id (n := b.2 - gr b.2 x) (by omega) (by omega), w64_id (n := b.2 - gr b.2 x + rate) (by omega) (by omega)]
      rfl) (fun b ⟨i1, i2, i3⟩ => by
      unfold meter_Run_L0
      exact ite_of_f (by simp) rfl) (b0 := ([], lv)) ⟨rfl, h0, h1⟩
  refine ⟨?_, g2, g3, g4⟩
  unfold meter_Run
  exact bind_of g1 rfl

theorem awake_eq : exchangepointlaw12_awake = some true := by
  unfold exchangepointlaw12_awake
  refine bind_of rfl ?_
  refine bind_of (run_eq 1 2 2 [5, 5, 5] (by omega) (by omega) (by omega) (by omega) (by omega) (by decide)).1 ?_
  rfl

/-- a row of zeros -/
theorem idle_run (rate burst : Int) (hr : 0 ≤ rate) (hrb : rate ≤ burst) : ∀ (n : Nat) (l : List Int) (lv : Int), 0 ≤ lv → lv ≤ burst →
    (List.replicate n (0 : Int)).foldl (rstep rate burst) (l, lv) = (l ++ List.replicate n 0, minI (lv + n * rate) burst)
  | 0, l, lv, h0, h1 => by simp [minI]; omega
  | n + 1, l, lv, h0, h1 => by
    have hg : gr lv 0 = 0 := by unfold gr maxI minI; split <;> split <;> omega
    have hn : nx rate burst lv 0 = minI (lv + rate) burst := by unfold nx; rw [hg]; simp
    have hb : 0 ≤ minI (lv + rate) burst ∧ minI (lv + rate) burst ≤ burst := by unfold minI; split <;> omega
    rw [List.replicate_succ, List.foldl_cons]
    show (List.replicate n (0 : Int)).foldl (rstep rate burst) (l ++ [gr lv 0], nx rate burst lv 0) = _
    rw [idle_run rate burst hr hrb n _ _ (by rw [hn]; exact hb.1) (by rw [hn]; exact hb.2), hg, hn]
    refine Prod.ext (by simp) ?_
    have hmul : 0 ≤ (n : Int) * rate := Int.mul_nonneg (by omega) hr
    have he : ((n + 1 : Nat) : Int) * rate = n * rate + rate := by rw [Int.natCast_add, Int.add_mul]; simp
    simp only [he]
    generalize (n : Int) * rate = z at *
    unfold minI
    repeat' split
    all_goals omega

abbrev I64 (x : Int) : Prop := IntKind.i64.min ≤ x ∧ x ≤ IntKind.i64.max
theorem idle_eq (a0 : Int) (_ : I64 a0) (a1 : Int) (_ : I64 a1) (a2 : Int) (_ : I64 a2) : exchangepointlaw12_MeterIdle a0 a1 a2 = some true := by
  unfold exchangepointlaw12_MeterIdle
  obtain ⟨b0, b1⟩ := emod_lt' a1 (m := 40) (by omega)
  refine bind_of (mod_eq a1 40 (by omega) (by omega)) ?_
  generalize a1 % 40 = B at *
  rw [w64_id (n := B + 1) (by omega) (by omega)]
  obtain ⟨r0, r1⟩ := emod_lt' a0 (m := B + 1) (by omega)
  obtain ⟨l0, l1⟩ := emod_lt' a2 (m := B + 1) (by omega)
  refine bind_of (mod_eq a0 (B + 1) (by omega) (by omega)) ?_
  refine bind_of (mod_eq a2 (B + 1) (by omega) (by omega)) ?_
  generalize a0 % (B + 1) = R at *
  generalize a2 % (B + 1) = L at *
  have hlim : (LIM : Int) = 4294967296 := rfl
  refine chk_of (by simp only [Bool.and_eq_true, decide_eq_true_eq]; omega) ?_
  obtain ⟨n, rfl⟩ : ∃ n : Nat, B = n := ⟨B.toNat, by omega⟩
  have hrun := (run_eq R n L (List.replicate (Int.toNat n) 0) l0 (by omega) r0 (by omega) (by omega) (by simp; omega)).1
  have hid : runI R n L (List.replicate (Int.toNat n) 0) = (List.replicate n 0, minI (L + n * R) n) := by
    unfold runI
    rw [Int.toNat_natCast, idle_run R n r0 (by omega) n [] L l0 (by omega)]
    simp
  rw [hid] at hrun
  refine bind_of hrun ?_
  have hloop := (loop_range (tb := exchangepointlaw12_MeterIdle_L0 ((⟨minI (L + n * R) n, R, n⟩ : api_Bucket), List.replicate n 0)) (List.replicate n (0 : Int)) (fun k (_ : Unit) => (k : Int)) (fun b _ => b) (fun _ => Sum.inr ()) (fun _ _ => True)
    (fun k b x hx _ => by
      have hlt : k < n := by have := (List.getElem?_eq_some_iff.1 hx).1; simpa using this
      have hx0 : x = 0 := by
        have := List.mem_of_getElem? hx
        exact (List.mem_replicate.1 this).2
      subst hx0
      refine ⟨trivial, ?_⟩
      unfold exchangepointlaw12_MeterIdle_L0
      refine ite_of_t (by simpa using hlt) ?_
      refine bind_of (idx_get hx) ?_
      refine ite_of_f (by simp) ?_
      rw [w64_id (by omega) (by omega)]
      rfl) (fun b _ => by
      unfold exchangepointlaw12_MeterIdle_L0
      exact ite_of_f (by simp) rfl) (b0 := ()) trivial).1
  refine bind_of hloop ?_
  show jn _ _ = _
  unfold jn
  have hmin : minI (L + n * R) n = if 0 < R then (n : Int) else L := by
    by_cases h : 0 < R
    · rw [if_pos h]
      have : (n : Int) * 1 ≤ n * R := Int.mul_le_mul_of_nonneg_left (by omega) (by omega)
      unfold minI; split <;> omega
    · have hR : R = 0 := by omega
      rw [if_neg h, hR]
      simp [minI]; omega
  by_cases h : 0 < R
  · refine ite_of_t (by simpa using h) ?_
    refine ite_of_t (by simp [hmin, h]) ?_
    exact bind_of awake_eq rfl
  · refine ite_of_f (by simpa using h) ?_
    refine ite_of_t (by simp [hmin, h]) ?_
    exact bind_of awake_eq rfl
end Go.Proofs.Ytfkncddpcidnfaa
