/- Chapter 12, in plain Lean: what the printed functions answer. -/
import Derived.Test.YtfkncddpcidnfaaFns
import Derived.Test.YtfkncddpcidnfaaVcQ
namespace Go.Proofs.Ytfkncddpcidnfaa
open Go Go.Vc

theorem mod_eq (a m : Int) (hm : 0 < m) (hb : m ≤ 4611686018427387904) : exchangepointmake_Mod a m = some (a % m) := by
  obtain ⟨h0, h1⟩ := emod_lt' a hm
  unfold exchangepointmake_Mod
  refine chk_of (by simp; omega) ?_
  unfold jn
  rcases tmod_emod a hm with h | ⟨h, hn⟩
  · rw [h]
    exact ite_of_f (by simp; omega) rfl
  · rw [h]
    refine ite_of_t (by simp; omega) ?_
    rw [show a % m - m + m = a % m from by omega, w64_id (by omega) (by omega)]

/-- what a tick grants, and what is left -/
def gr (lv x : Int) : Int := maxI 0 (minI x lv)
theorem gr_range {lv x : Int} (h : 0 ≤ lv) : 0 ≤ gr lv x ∧ gr lv x ≤ lv ∧ (0 ≤ x → gr lv x ≤ x) := by
  unfold gr maxI minI; split <;> split <;> omega
theorem gr_eq {lv x : Int} (h : 0 ≤ lv) (hx : 0 ≤ x) : gr lv x = min x lv := by
  unfold gr maxI minI; split <;> split <;> omega
def nx (rate burst lv x : Int) : Int := minI (lv - gr lv x + rate) burst
def rstep (rate burst : Int) (b : List Int × Int) (x : Int) : List Int × Int := (b.1 ++ [gr b.2 x], nx rate burst b.2 x)
def runI (rate burst lv : Int) (xs : List Int) : List Int × Int := xs.foldl (rstep rate burst) ([], lv)

theorem nx_range {rate burst lv x : Int} (h : 0 ≤ lv) (hr : 0 ≤ rate) (hrb : rate ≤ burst) : 0 ≤ nx rate burst lv x ∧ nx rate burst lv x ≤ burst := by
  have := gr_range (x := x) h
  unfold nx minI; split <;> omega

theorem run_eq (rate burst lv : Int) (xs : List Int) (h0 : 0 ≤ lv) (h1 : lv ≤ burst) (hr : 0 ≤ rate) (hrb : rate ≤ burst) (hb : burst ≤ 1048576) (hl : xs.length ≤ 4294967296) :
    meter_Run ⟨lv, rate, burst⟩ xs = some (⟨(runI rate burst lv xs).2, rate, burst⟩, (runI rate burst lv xs).1) ∧ (runI rate burst lv xs).1.length = xs.length ∧ 0 ≤ (runI rate burst lv xs).2 ∧ (runI rate burst lv xs).2 ≤ burst := by
  obtain ⟨g1, g2, g3, g4⟩ := loop_range (tb := meter_Run_L0 xs) xs (fun k b => ((k : Int), b.1, (⟨b.2, rate, burst⟩ : api_Bucket))) (rstep rate burst) (fun b => (b.1, (⟨b.2, rate, burst⟩ : api_Bucket)))
    (fun k b => b.1.length = k ∧ 0 ≤ b.2 ∧ b.2 ≤ burst) (fun k b x hx ⟨i1, i2, i3⟩ => by
      have hlt : k < xs.length := (List.getElem?_eq_some_iff.1 hx).1
      have r1 := gr_range (x := x) i2
      have r2 := nx_range (x := x) i2 hr hrb
      refine ⟨⟨by simp [rstep, i1], r2⟩, ?_⟩
      unfold meter_Run_L0
      refine ite_of_t (by simpa using hlt) ?_
      refine bind_of (idx_get hx) ?_
      refine bind_of rfl ?_
      refine chk_of (by simp [LIM, i1]; omega) ?_
      show some (Sum.inr (w64 (↑k + 1), b.1 ++ [gr b.2 x], (⟨minI (w64 (w64 (b.2 - gr b.2 x) + rate)) burst, rate, burst⟩ : api_Bucket))) = _
      rw [w64_id (n := (k : Int) + 1) (by omega) (by omega), w64_id (n := b.2 - gr b.2 x) (by omega) (by omega), w64_id (n := b.2 - gr b.2 x + rate) (by omega) (by omega)]
      rfl) (fun b ⟨i1, i2, i3⟩ => by
      unfold meter_Run_L0
      exact ite_of_f (by simp) rfl) (b0 := ([], lv)) ⟨rfl, h0, h1⟩
  refine ⟨?_, g2, g3, g4⟩
  unfold meter_Run
  exact bind_of g1 rfl

theorem awake_eq : exchangepointlaw12_awake = some true := by
  unfold exchangepointlaw12_awake
  refine bind_of rfl ?_
  refine bind_of (run_eq 1 2 2 [5, 5, 5] (by omega) (by omega) (by omega) (by omega) (by omega) (by decide)).1 ?_
  rfl

/-- a row of zeros -/
theorem idle_run (rate burst : Int) (hr : 0 ≤ rate) (hrb : rate ≤ burst) : ∀ (n : Nat) (l : List Int) (lv : Int), 0 ≤ lv → lv ≤ burst →
    (List.replicate n (0 : Int)).foldl (rstep rate burst) (l, lv) = (l ++ List.replicate n 0, minI (lv + n * rate) burst)
  | 0, l, lv, h0, h1 => by simp [minI]; omega
  | n + 1, l, lv, h0, h1 => by
    have hg : gr lv 0 = 0 := by unfold gr maxI minI; split <;> split <;> omega
    have hn : nx rate burst lv 0 = minI (lv + rate) burst := by unfold nx; rw [hg]; simp
    have hb : 0 ≤ minI (lv + rate) burst ∧ minI (lv + rate) burst ≤ burst := by unfold minI; split <;> omega
    rw [List.replicate_succ, List.foldl_cons]
    show (List.replicate n (0 : Int)).foldl (rstep rate burst) (l ++ [gr lv 0], nx rate burst lv 0) = _
    rw [idle_run rate burst hr hrb n _ _ (by rw [hn]; exact hb.1) (by rw [hn]; exact hb.2), hg, hn]
    refine Prod.ext (by simp) ?_
    have hmul : 0 ≤ (n : Int) * rate := Int.mul_nonneg (by omega) hr
    have he : ((n + 1 : Nat) : Int) * rate = n * rate + rate := by rw [Int.natCast_add, Int.add_mul]; simp
    simp only [he]
    generalize (n : Int) * rate = z at *
    unfold minI
    repeat' split
    all_goals omega

abbrev I64 (x : Int) : Prop := IntKind.i64.min ≤ x ∧ x ≤ IntKind.i64.max
theorem idle_eq (a0 : Int) (_ : I64 a0) (a1 : Int) (_ : I64 a1) (a2 : Int) (_ : I64 a2) : exchangepointlaw12_MeterIdle a0 a1 a2 = some true := by
  unfold exchangepointlaw12_MeterIdle
  obtain ⟨b0, b1⟩ := emod_lt' a1 (m := 40) (by omega)
  refine bind_of (mod_eq a1 40 (by omega) (by omega)) ?_
  generalize a1 % 40 = B at *
  rw [w64_id (n := B + 1) (by omega) (by omega)]
  obtain ⟨r0, r1⟩ := emod_lt' a0 (m := B + 1) (by omega)
  obtain ⟨l0, l1⟩ := emod_lt' a2 (m := B + 1) (by omega)
  refine bind_of (mod_eq a0 (B + 1) (by omega) (by omega)) ?_
  refine bind_of (mod_eq a2 (B + 1) (by omega) (by omega)) ?_
  generalize a0 % (B + 1) = R at *
  generalize a2 % (B + 1) = L at *
  have hlim : (LIM : Int) = 4294967296 := rfl
  refine chk_of (by simp only [Bool.and_eq_true, decide_eq_true_eq]; omega) ?_
  obtain ⟨n, rfl⟩ : ∃ n : Nat, B = n := ⟨B.toNat, by omega⟩
  have hrun := (run_eq R n L (List.replicate (Int.toNat n) 0) l0 (by omega) r0 (by omega) (by omega) (by simp; omega)).1
  have hid : runI R n L (List.replicate (Int.toNat n) 0) = (List.replicate n 0, minI (L + n * R) n) := by
    unfold runI
    rw [Int.toNat_natCast, idle_run R n r0 (by omega) n [] L l0 (by omega)]
    simp
  rw [hid] at hrun
  refine bind_of hrun ?_
  have hloop := (loop_range (tb := exchangepointlaw12_MeterIdle_L0 ((⟨minI (L + n * R) n, R, n⟩ : api_Bucket), List.replicate n 0)) (List.replicate n (0 : Int)) (fun k (_ : Unit) => (k : Int)) (fun b _ => b) (fun _ => Sum.inr ()) (fun _ _ => True)
    (fun k b x hx _ => by
      have hlt : k < n := by have := (List.getElem?_eq_some_iff.1 hx).1; simpa using this
      have hx0 : x = 0 := by
        have := List.mem_of_getElem? hx
        exact (List.mem_replicate.1 this).2
      subst hx0
      refine ⟨trivial, ?_⟩
      unfold exchangepointlaw12_MeterIdle_L0
      refine ite_of_t (by simpa using hlt) ?_
      refine bind_of (idx_get hx) ?_
      refine ite_of_f (by simp) ?_
      rw [w64_id (by omega) (by omega)]
      rfl) (fun b _ => by
      unfold exchangepointlaw12_MeterIdle_L0
      exact ite_of_f (by simp) rfl) (b0 := ()) trivial).1
  refine bind_of hloop ?_
  show jn _ _ = _
  unfold jn
  have hmin : minI (L + n * R) n = if 0 < R then (n : Int) else L := by
    by_cases h : 0 < R
    · rw [if_pos h]
      have : (n : Int) * 1 ≤ n * R := Int.mul_le_mul_of_nonneg_left (by omega) (by omega)
      unfold minI; split <;> omega
    · have hR : R = 0 := by omega
      rw [if_neg h, hR]
      simp [minI]; omega
  by_cases h : 0 < R
  · refine ite_of_t (by simpa using h) ?_
    refine ite_of_t (by simp [hmin, h]) ?_
    exact bind_of awake_eq rfl
  · refine ite_of_f (by simpa using h) ?_
    refine ite_of_t (by simp [hmin, h]) ?_
    exact bind_of awake_eq rfl
-- the row of arrivals
theorem arr_eq {tb : Int × List Int → Option (List Int ⊕ (Int × List Int))} (a0 : List Int) (hl : a0.length ≤ 120)
    (htb : ∀ s, tb s = (if (decide (s.1 < (a0.length : Int))) = true then
      (idx a0 s.1).bind fun x => (exchangepointmake_Mod x (30 : Int)).bind fun r =>
        chk (decide ((s.2 ++ ([r] : List Int)).length ≤ LIM)) <| some (.inr ((w64 (s.1 + (1 : Int))), (s.2 ++ ([r] : List Int)))) else some (.inl s.2))) :
    loop tb ((0 : Int), ([] : List Int)) = some (a0.map (· % 30)) := by
  obtain ⟨x, hx, h⟩ := loop_meas (tb := tb) (fun s => ∃ k : Nat, k ≤ a0.length ∧ s = ((k : Int), (a0.take k).map (· % 30))) (fun s => a0.length - s.1.toNat) (fun x => x = a0.map (· % 30)) (by
    rintro s ⟨k, hk, rfl⟩
    rw [htb]
    by_cases hlt : k < a0.length
    · right
      have hg := List.getElem?_eq_getElem hlt
      refine ⟨(((k + 1 : Nat) : Int), (a0.take (k + 1)).map (· % 30)), ⟨k + 1, hlt, rfl⟩, by simp; omega, ?_⟩
      refine ite_of_t (by simpa using hlt) ?_
      refine bind_of (idx_get hg) ?_
      refine bind_of (mod_eq _ 30 (by omega) (by omega)) ?_
      refine chk_of (by simp [LIM]; omega) ?_
      rw [w64_id (by omega) (by omega), take_succ_get hg, List.map_append]
      rfl
    · left
      have : k = a0.length := by omega
      subst this
      exact ⟨_, by simp, ite_of_f (by simp) rfl⟩) (s := ((0 : Int), [])) ⟨0, Nat.zero_le _, by simp⟩
  rw [h, hx]

/-- the state after k arrivals -/
def stk (R B lv : Int) (l : List Int) (k : Nat) : List Int × Int := (l.take k).foldl (rstep R B) ([], lv)
theorem stk_succ {R B lv : Int} {l : List Int} {k : Nat} {x : Int} (h : l[k]? = some x) : stk R B lv l (k + 1) = rstep R B (stk R B lv l k) x := by
  unfold stk; rw [take_succ_get h, List.foldl_append]; rfl
theorem stk_ok {R B lv : Int} (l : List Int) (h0 : 0 ≤ lv) (h1 : lv ≤ B) (hr : 0 ≤ R) (hrb : R ≤ B) : ∀ k, k ≤ l.length → (stk R B lv l k).1.length = k ∧ 0 ≤ (stk R B lv l k).2 ∧ (stk R B lv l k).2 ≤ B
  | 0, _ => by simp [stk]; omega
  | k + 1, hk => by
    obtain ⟨i1, i2, i3⟩ := stk_ok l h0 h1 hr hrb k (by omega)
    have hg := List.getElem?_eq_getElem (show k < l.length from by omega)
    rw [stk_succ hg]
    have := nx_range (x := l[k]) i2 hr hrb
    exact ⟨by simp [rstep, i1], this⟩
theorem fold_get {R B : Int} : ∀ (l : List Int) (o : List Int) (lv : Int) (k : Nat), k < o.length → (l.foldl (rstep R B) (o, lv)).1[k]? = o[k]?
  | [], _, _, _, _ => rfl
  | x :: l, o, lv, k, h => by
    rw [List.foldl_cons]
    show (l.foldl (rstep R B) (o ++ [gr lv x], nx R B lv x)).1[k]? = _
    rw [fold_get l _ _ k (by simp; omega), List.getElem?_append_left h]
theorem got_get {R B lv : Int} {l : List Int} (h0 : 0 ≤ lv) (h1 : lv ≤ B) (hr : 0 ≤ R) (hrb : R ≤ B) {k : Nat} {x : Int} (h : l[k]? = some x) : (runI R B lv l).1[k]? = some (gr (stk R B lv l k).2 x) := by
  have hk : k < l.length := (List.getElem?_eq_some_iff.1 h).1
  have hs := (stk_ok l h0 h1 hr hrb k (by omega)).1
  have e : runI R B lv l = (l.drop (k + 1)).foldl (rstep R B) (stk R B lv l (k + 1)) := by
    unfold runI stk
    rw [← List.foldl_append, List.take_append_drop]
  rw [e, stk_succ h]
  show (List.foldl (rstep R B) ((stk R B lv l k).1 ++ [gr (stk R B lv l k).2 x], _) _).1[k]? = _
  rw [fold_get _ _ _ _ (by simp [hs]), List.getElem?_append_right (by omega), hs]
  simp

theorem bounds_eq (a0 : List Int) (_ : (∀ y ∈ a0, I64 y) ∧ a0.length ≤ maxLen) (a1 : Int) (_ : I64 a1) (a2 : Int) (_ : I64 a2) : exchangepointlaw12_MeterBounds a0 a1 a2 = some true := by
  unfold exchangepointlaw12_MeterBounds
  by_cases hlen : 120 < a0.length
  · exact ite_of_t (by simp; omega) (bind_of awake_eq rfl)
  refine ite_of_f (by simp; omega) ?_
  obtain ⟨b0, b1⟩ := emod_lt' a2 (m := 20) (by omega)
  refine bind_of (mod_eq a2 20 (by omega) (by omega)) ?_
  generalize a2 % 20 = B at *
  rw [w64_id (n := B + 1) (by omega) (by omega)]
  obtain ⟨r0, r1⟩ := emod_lt' a1 (m := B + 1) (by omega)
  refine bind_of (mod_eq a1 (B + 1) (by omega) (by omega)) ?_
  generalize a1 % (B + 1) = R at *
  refine bind_of (arr_eq a0 (by omega) (fun s => by rw [exchangepointlaw12_MeterBounds_L0])) ?_
  have hl0 : ∀ x ∈ a0.map (· % 30), 0 ≤ x := by
    intro x hx
    obtain ⟨y, _, rfl⟩ := List.mem_map.1 hx
    exact (emod_lt' y (by omega)).1
  have hlen' : (a0.map (· % 30)).length ≤ 120 := by rw [List.length_map]; omega
  generalize a0.map (· % 30) = l at *
  refine bind_of rfl ?_
  obtain ⟨e1, e2, e3, e4⟩ := run_eq R B B l b0 (by omega) r0 (by omega) (by omega) (by omega)
  refine bind_of e1 ?_
  generalize hgot : (runI R B B l).1 = got at *
  generalize (runI R B B l).2 = lv at *
  show jn _ _ = _
  unfold jn
  refine ite_of_f (by simp [e2]) ?_
  refine bind_of rfl ?_
  refine ite_of_f (by simp; omega) ?_
  have key : ∀ k x, l[k]? = some x → got[k]? = some (gr (stk R B B l k).2 x) := fun k x h => by rw [← hgot]; exact got_get b0 (Int.le_refl _) r0 (by omega) h
  have inner : ∀ i : Nat, i < l.length → loop (exchangepointlaw12_MeterBounds_L2 B R l ((⟨lv, R, B⟩ : api_Bucket), got) (i : Int)) ((0 : Int), (i : Int)) = some (.inr ()) := by
    intro i hi
    obtain ⟨x, hx, h⟩ := loop_meas (tb := exchangepointlaw12_MeterBounds_L2 B R l ((⟨lv, R, B⟩ : api_Bucket), got) (i : Int)) (fun s => ∃ k : Nat, i ≤ k ∧ k ≤ l.length ∧ s.2 = (k : Int) ∧ 0 ≤ s.1 ∧ s.1 + (stk R B B l k).2 ≤ B + ((k - i : Nat) : Int) * R) (fun s => l.length - s.2.toNat) (fun x => x = .inr ()) (by
      rintro ⟨sum, j⟩ ⟨k, hik, hk, hj, hs0, hs⟩
      simp only at hj hs0 hs
      subst hj
      unfold exchangepointlaw12_MeterBounds_L2
      by_cases hlt : k < l.length
      · right
        obtain ⟨i1, i2, i3⟩ := stk_ok l b0 (Int.le_refl B) r0 (show R ≤ B from by omega) k (by omega)
        have hg := List.getElem?_eq_getElem hlt
        have hx0 := hl0 _ (List.getElem_mem hlt)
        have hgot := key _ _ hg
        obtain ⟨g0, g1, g2⟩ := gr_range (x := l[k]) i2
        have g3 := g2 hx0
        have hsucc := stk_succ (R := R) (B := B) (lv := B) hg
        have hki : ((k - i : Nat) : Int) = k - i := by omega
        have hbound : ((k - i : Nat) : Int) * R ≤ 120 * 20 := Int.mul_le_mul (by omega) (by omega) r0 (by omega)
        have hz : 0 ≤ ((k - i : Nat) : Int) * R := Int.mul_nonneg (by omega) r0
        have hnext : ((k + 1 - i : Nat) : Int) * R = ((k - i : Nat) : Int) * R + R := by
          rw [show ((k + 1 - i : Nat) : Int) = ((k - i : Nat) : Int) + 1 from by omega, Int.add_mul, Int.one_mul]
        have hnx : (stk R B B l (k + 1)).2 ≤ (stk R B B l k).2 - gr (stk R B B l k).2 l[k] + R := by
          rw [hsucc]
          show nx R B _ _ ≤ _
          unfold nx minI; split <;> omega
        generalize hG : gr (stk R B B l k).2 l[k] = G at *
        refine ⟨(sum + G, ((k + 1 : Nat) : Int)), ⟨k + 1, by omega, hlt, rfl, by simp only; omega, by simp only; omega⟩, by simp; omega, ?_⟩
        refine ite_of_t (by simp [e2]; omega) ?_
        refine bind_of (idx_get hgot) ?_
        show jn _ _ = _
        unfold jn
        refine bind_of (idx_get hgot) ?_
        refine ite_of_f (by simp; omega) ?_
        refine bind_of (idx_get hgot) ?_
        refine bind_of (idx_get hg) ?_
        rw [w64_id (n := (k : Int) - i) (by omega) (by omega), ← hki, w64_id (n := ((k - i : Nat) : Int) * R) (by omega) (by omega), w64_id (n := B + ((k - i : Nat) : Int) * R) (by omega) (by omega), w64_id (n := sum + G) (by omega) (by omega)]
        refine ite_of_f (by simp only [Bool.or_eq_false_iff, decide_eq_false_iff_not]; omega) ?_
        rw [w64_id (n := (k : Int) + 1) (by omega) (by omega)]
        rfl
      · left
        have : k = l.length := by omega
        subst this
        exact ⟨_, rfl, ite_of_f (by simp [e2]) rfl⟩) (s := ((0 : Int), (i : Int))) ⟨i, Nat.le_refl _, by omega, rfl, Int.le_refl _, by
          have := (stk_ok l b0 (Int.le_refl B) r0 (show R ≤ B from by omega) i (by omega)).2.2
          simp; omega⟩
    rw [h, hx]
  obtain ⟨x, hx, h⟩ := loop_meas (tb := exchangepointlaw12_MeterBounds_L1 B R l ((⟨lv, R, B⟩ : api_Bucket), got)) (fun s => ∃ k : Nat, k ≤ l.length ∧ s = (k : Int)) (fun s => l.length - s.toNat) (fun x => x = .inr ()) (by
    rintro s ⟨k, hk, rfl⟩
    unfold exchangepointlaw12_MeterBounds_L1
    by_cases hlt : k < l.length
    · right
      refine ⟨((k + 1 : Nat) : Int), ⟨k + 1, hlt, rfl⟩, by simp; omega, ?_⟩
      refine ite_of_t (by simp [e2]; omega) ?_
      refine bind_of (inner k hlt) ?_
      show some _ = _
      rw [w64_id (n := (k : Int) + 1) (by omega) (by omega)]
      rfl
    · left
      have : k = l.length := by omega
      subst this
      exact ⟨_, rfl, ite_of_f (by simp [e2]) rfl⟩) (s := (0 : Int)) ⟨0, Nat.zero_le _, rfl⟩
  subst hx
  refine bind_of h ?_
  exact bind_of awake_eq rfl
theorem more_core (l : List Int) (hl0 : ∀ x ∈ l, 0 ≤ x ∧ x < 30) (hlen : l.length ≤ 120) (L R B L' R' B' : Int) (h0 : 0 ≤ L) (h1 : L ≤ B) (hr : 0 ≤ R) (hrb : R ≤ B) (h1' : L' ≤ B') (hrb' : R' ≤ B') (hL : L ≤ L') (hR : R ≤ R') (hB : B ≤ B') (hb : B' ≤ 25) :
    ((meter_Run (api_Bucket.mk L R B) l).bind fun r27 =>
      (meter_Run (api_Bucket.mk L' R' B') l).bind fun r28 =>
      (if (((r27.2.length : Int) != (l.length : Int)) || ((r28.2.length : Int) != (l.length : Int))) = true then
      some false
      else
      (loop (exchangepointlaw12_MeterMore_L1 l r27 r28) ((0 : Int), (0 : Int), (0 : Int))).bind fun x45 => match x45 with
      | (.inl _) => some false
      | (.inr _) => (exchangepointlaw12_awake).bind fun r47 => some r47)) = some true := by
  obtain ⟨e1, e2, e3, e4⟩ := run_eq R B L l h0 h1 hr hrb (by omega) (by omega)
  obtain ⟨d1, d2, d3, d4⟩ := run_eq R' B' L' l (by omega) h1' (by omega) hrb' (by omega) (by omega)
  refine bind_of e1 ?_
  refine bind_of d1 ?_
  refine ite_of_f (by simp [e2, d2]) ?_
  have key : ∀ k x, l[k]? = some x → (runI R B L l).1[k]? = some (gr (stk R B L l k).2 x) := fun k x h => got_get h0 h1 hr hrb h
  have key' : ∀ k x, l[k]? = some x → (runI R' B' L' l).1[k]? = some (gr (stk R' B' L' l k).2 x) := fun k x h => got_get (by omega) h1' (by omega) hrb' h
  generalize (runI R B L l).1 = got at *
  generalize (runI R' B' L' l).1 = got' at *
  obtain ⟨x, hx, h⟩ := loop_meas (tb := exchangepointlaw12_MeterMore_L1 l ((⟨(runI R B L l).2, R, B⟩ : api_Bucket), got) ((⟨(runI R' B' L' l).2, R', B'⟩ : api_Bucket), got'))
    (fun s => ∃ k : Nat, k ≤ l.length ∧ s.2.2 = (k : Int) ∧ 0 ≤ s.1 ∧ s.1 ≤ s.2.1 ∧ s.2.1 ≤ 30 * k ∧ s.1 + (stk R B L l k).2 ≤ s.2.1 + (stk R' B' L' l k).2) (fun s => l.length - s.2.2.toNat) (fun x => x = .inr ()) (by
    rintro ⟨p, q, j⟩ ⟨k, hk, hj, hp0, hpq, hq, hs⟩
    simp only at hj hp0 hpq hq hs
    subst hj
    unfold exchangepointlaw12_MeterMore_L1
    by_cases hlt : k < l.length
    · right
      obtain ⟨_, i2, i3⟩ := stk_ok l h0 h1 hr hrb k (by omega)
      obtain ⟨_, i2', i3'⟩ := stk_ok l (show 0 ≤ L' from by omega) h1' (show 0 ≤ R' from by omega) hrb' k (by omega)
      have hg := List.getElem?_eq_getElem hlt
      obtain ⟨hx0, hx1⟩ := hl0 _ (List.getElem_mem hlt)
      have hgot := key _ _ hg
      have hgot' := key' _ _ hg
      have n1 : (stk R B L l (k + 1)).2 = nx R B (stk R B L l k).2 l[k] := by rw [stk_succ hg]; rfl
      have n2 : (stk R' B' L' l (k + 1)).2 = nx R' B' (stk R' B' L' l k).2 l[k] := by rw [stk_succ hg]; rfl
      have g1 := gr_eq (x := l[k]) i2 hx0
      have g2 := gr_eq (x := l[k]) i2' hx0
      generalize hG : gr (stk R B L l k).2 l[k] = G at *
      generalize hG' : gr (stk R' B' L' l k).2 l[k] = G' at *
      unfold nx at n1 n2
      rw [hG] at n1
      rw [hG'] at n2
      refine ⟨(p + G, q + G', ((k + 1 : Nat) : Int)), ⟨k + 1, hlt, rfl, ?_⟩, by simp; omega, ?_⟩
      · simp only [n1, n2]
        unfold minI
        repeat' split
        all_goals omega
      refine ite_of_t (by simpa using hlt) ?_
      refine bind_of (idx_get hgot) ?_
      refine bind_of (idx_get hgot') ?_
      rw [w64_id (n := q + G') (by omega) (by omega), w64_id (n := p + G) (by omega) (by omega), w64_id (n := (k : Int) + 1) (by omega) (by omega)]
      exact ite_of_f (by simp; omega) rfl
    · left
      have : k = l.length := by omega
      subst this
      exact ⟨_, rfl, ite_of_f (by simp) rfl⟩) (s := ((0 : Int), (0 : Int), (0 : Int))) ⟨0, Nat.zero_le _, rfl, Int.le_refl _, Int.le_refl _, by simp, by simp [stk]; exact hL⟩
  subst hx
  refine bind_of h ?_
  exact bind_of awake_eq rfl

theorem more_eq (a0 : List Int) (_ : (∀ y ∈ a0, I64 y) ∧ a0.length ≤ maxLen) (a1 : Int) (_ : I64 a1) (a2 : Int) (_ : I64 a2) (a3 : Int) (_ : I64 a3) (a4 : Int) (_ : I64 a4) : exchangepointlaw12_MeterMore a0 a1 a2 a3 a4 = some true := by
  unfold exchangepointlaw12_MeterMore
  by_cases hlen : 120 < a0.length
  · exact ite_of_t (by simp; omega) (bind_of awake_eq rfl)
  refine ite_of_f (by simp; omega) ?_
  obtain ⟨b0, b1⟩ := emod_lt' a2 (m := 20) (by omega)
  refine bind_of (mod_eq a2 20 (by omega) (by omega)) ?_
  generalize a2 % 20 = B at *
  rw [w64_id (n := B + 1) (by omega) (by omega)]
  obtain ⟨r0, r1⟩ := emod_lt' a1 (m := B + 1) (by omega)
  obtain ⟨l0, l1⟩ := emod_lt' a4 (m := B + 1) (by omega)
  refine bind_of (mod_eq a1 (B + 1) (by omega) (by omega)) ?_
  refine bind_of (mod_eq a4 (B + 1) (by omega) (by omega)) ?_
  generalize a1 % (B + 1) = R at *
  generalize a4 % (B + 1) = L at *
  refine bind_of (mod_eq a3 3 (by omega) (by omega)) ?_
  have hl : loop (exchangepointlaw12_MeterMore_L0 a0) ((0 : Int), ([] : List Int)) = some (a0.map (· % 30)) := arr_eq a0 (by omega) (fun s => by rw [exchangepointlaw12_MeterMore_L0])
  have hl0 : ∀ x ∈ a0.map (· % 30), 0 ≤ x ∧ x < 30 := by
    intro x hx
    obtain ⟨y, _, rfl⟩ := List.mem_map.1 hx
    exact emod_lt' y (by omega)
  have hlen' : (a0.map (· % 30)).length ≤ 120 := by rw [List.length_map]; omega
  show jn _ _ = _
  unfold jn
  by_cases c0 : a3 % 3 = 0
  · refine ite_of_t (by simp [c0]) ?_
    refine bind_of hl ?_
    exact more_core _ hl0 hlen' L R B B R B l0 (by omega) r0 (by omega) (by omega) (by omega) (by omega) (by omega) (by omega) (by omega)
  · refine ite_of_f (by simp [c0]) ?_
    by_cases c1 : a3 % 3 = 1
    · refine ite_of_t (by simp [c1]) ?_
      refine bind_of hl ?_
      exact more_core _ hl0 hlen' L R B L B B l0 (by omega) r0 (by omega) (by omega) (by omega) (by omega) (by omega) (by omega) (by omega)
    · refine ite_of_f (by simp [c1]) ?_
      rw [w64_id (n := B + 5) (by omega) (by omega)]
      refine bind_of hl ?_
      exact more_core _ hl0 hlen' L R B L R (B + 5) l0 (by omega) r0 (by omega) (by omega) (by omega) (by omega) (by omega) (by omega) (by omega)
end Go.Proofs.Ytfkncddpcidnfaa
