/- Decks of numbers and the document's Of, in plain Lean. -/
import Derived.Test.YtgfoabcickjphaaDoorPureL
namespace Go.Proofs.YtgfoabcickjphaaDoor
open Go Go.Vc
theorem mod_eq (a m : Int) (hm : 0 < m) (hb : m ≤ 4611686018427387904) : exchangepointmake_Mod a m = some (a % m) := by
 obtain ⟨h0, h1⟩ := emod_lt' a hm
 unfold exchangepointmake_Mod
 refine chk_of (by simp; omega) ?_
 unfold jn
 rcases tmod_emod a hm with h | ⟨h, hn⟩
 ·rw [h]
  exact ite_of_f (by simp; omega) rfl
 ·rw [h]
  refine ite_of_t (by simp; omega) ?_
  rw [show a % m - m + m = a % m from by omega, w64_id (by omega) (by omega)]
def DeckOk (d : exchangepointmake_Deck) : Prop := 0 ≤ d.fAt ∧ d.fAt ≤ d.fL.length ∧ d.fL.length ≤ 9223372036854775807
theorem next_tot (d : exchangepointmake_Deck) (hd : DeckOk d) (n : Int) (hn : 0 < n) (hn' : n ≤ 4611686018427387904) : Tot (exchangepointmake_Deck_Next d n) (fun x => 0 ≤ x.1 ∧ x.1 < n ∧ DeckOk x.2) := by
 obtain ⟨h0, h1, h2⟩ := hd
 unfold exchangepointmake_Deck_Next
 by_cases h : (d.fL.length : Int) ≤ d.fAt
 ·exact Tot.iteT (by simpa using h) (Tot.some ⟨by simp, hn, h0, h1, h2⟩)
 ·obtain ⟨k, hk⟩ : ∃ k : Nat, d.fAt = k := ⟨d.fAt.toNat, by omega⟩
  have hlt : k < d.fL.length := by omega
  obtain ⟨m0, m1⟩ := emod_lt' d.fL[k] hn
  refine Tot.iteF (by simpa using h) ?_
  rw [w64_id (n := d.fAt + 1) (by omega) (by omega), w64_id (n := d.fAt + 1 - 1) (by omega) (by omega), show d.fAt + 1 - 1 = (k : Int) from by omega]
  refine Tot.bindIdx k rfl hlt (Tot.bindOf (mod_eq _ n hn hn') (Tot.some ⟨m0, m1, by simp only; omega, by simp only; omega, h2⟩))
theorem new_ok (l : List Int) (hl : l.length ≤ 9223372036854775807) : DeckOk ⟨l, 0⟩ := ⟨Int.le_refl _, by simp only; omega, hl⟩
theorem i64_id {n : Int} (h : -9223372036854775808 ≤ n) (h' : n ≤ 9223372036854775807) : IntKind.i64.wrap n = n := by
 rw [IntWalk.i64_left, IntWalk.wrap64_in n ⟨h, h'⟩]
theorem u64_rng (n : Int) : 0 ≤ IntKind.u64.wrap n ∧ IntKind.u64.wrap n < 18446744073709551616 := by
 rw [IntKind.wrap_u64]; omega
theorem aV_four {n : Int} (h0 : 0 ≤ n) (h1 : n < 4294967296) : aV (api_Addr.mk false 0 n) := ⟨⟨⟨by simp, by simp⟩, h0, by simp only; omega⟩, .inr ⟨rfl, h1⟩⟩
theorem aV_six {m n : Int} (h0 : 0 ≤ m ∧ m < 18446744073709551616) (h1 : 0 ≤ n ∧ n < 18446744073709551616) : aV (api_Addr.mk true m n) := ⟨⟨h0, h1⟩, .inl rfl⟩
theorem addr_tot (d : exchangepointmake_Deck) (hd : DeckOk d) : Tot (exchangepointmake_Deck_Addr d) (fun x => aV x.1 ∧ DeckOk x.2) := by
 unfold exchangepointmake_Deck_Addr
 refine Tot.bindT (next_tot d hd 6 (by omega) (by omega)) ?_
 rintro ⟨r, d⟩ ⟨_, _, hd⟩
 simp only at hd ⊢
 refine Tot.ite (fun _ => ?_) (fun _ => Tot.ite (fun _ => ?_) (fun _ => Tot.ite (fun _ => ?_) (fun _ => Tot.ite (fun _ => ?_) (fun _ => Tot.ite (fun _ => ?_) (fun _ => ?_)))))
 ·refine Tot.bindT (next_tot d hd 8 (by omega) (by omega)) ?_
  rintro ⟨a, d⟩ ⟨a0, a1, hd⟩
  refine Tot.bindT (next_tot d hd 4 (by omega) (by omega)) ?_
  rintro ⟨b, d⟩ ⟨b0, b1, hd⟩
  simp only at a0 a1 b0 b1 hd ⊢
  have e : shlI .i64 a 8 = a * 256 := by
   show IntKind.i64.wrap (a * 256) = _
   rw [i64_id (by omega) (by omega)]
  rw [e, w64_id (n := 167772160 + a * 256) (by omega) (by omega), w64_id (n := 167772160 + a * 256 + b) (by omega) (by omega), IntKind.wrap_u64]
  exact Tot.some ⟨aV_four (by omega) (by omega), hd⟩
 ·refine Tot.bindT (next_tot d hd 4 (by omega) (by omega)) ?_
  rintro ⟨a, d⟩ ⟨a0, a1, hd⟩
  refine Tot.bindT (next_tot d hd 8 (by omega) (by omega)) ?_
  rintro ⟨b, d⟩ ⟨b0, b1, hd⟩
  exact Tot.some ⟨aV_six (u64_rng _) (u64_rng _), hd⟩
 ·refine Tot.bindT (next_tot d hd 5 (by omega) (by omega)) ?_
  rintro ⟨a, d⟩ ⟨a0, a1, hd⟩
  simp only at a0 a1 hd ⊢
  have e : a = 0 ∨ a = 1 ∨ a = 2 ∨ a = 3 ∨ a = 4 := by omega
  rcases e with rfl | rfl | rfl | rfl | rfl <;> exact Tot.bindOf rfl (Tot.some ⟨aV_four (by decide) (by decide), hd⟩)
 ·refine Tot.bindT (next_tot d hd 4 (by omega) (by omega)) ?_
  rintro ⟨a, d⟩ ⟨a0, a1, hd⟩
  simp only at a0 a1 hd ⊢
  have key : ∀ x : Int, 0 ≤ x → x < 4 → Tot (idx ([(0 : Int), (1 : Int), (18446744073709551615 : Int), (9223372036854775808 : Int)] : List Int) x) (fun y => 0 ≤ y ∧ y < 18446744073709551616) := fun x h0 h1 => by
   have e : x = 0 ∨ x = 1 ∨ x = 2 ∨ x = 3 := by omega
   rcases e with rfl | rfl | rfl | rfl <;> exact ⟨_, rfl, by decide, by decide⟩
  refine Tot.bindT (key a a0 a1) fun x hx => Tot.bindT (next_tot d hd 4 (by omega) (by omega)) ?_
  rintro ⟨b, d⟩ ⟨b0, b1, hd⟩
  exact Tot.bindT (key b b0 b1) fun y hy => Tot.some ⟨aV_six hx hy, hd⟩
 ·refine Tot.bindT (next_tot d hd 1073741824 (by omega) (by omega)) ?_
  rintro ⟨a, d⟩ ⟨_, _, hd⟩
  refine Tot.bindT (next_tot d hd 5 (by omega) (by omega)) ?_
  rintro ⟨b, d⟩ ⟨_, _, hd⟩
  refine Tot.bindT (next_tot d hd 1073741824 (by omega) (by omega)) ?_
  rintro ⟨c, d⟩ ⟨_, _, hd⟩
  refine Tot.bindT (next_tot d hd 5 (by omega) (by omega)) ?_
  rintro ⟨e, d⟩ ⟨_, _, hd⟩
  exact Tot.some ⟨aV_six (u64_rng _) (u64_rng _), hd⟩
 ·refine Tot.bindT (next_tot d hd 1073741824 (by omega) (by omega)) ?_
  rintro ⟨a, d⟩ ⟨a0, a1, hd⟩
  simp only at a0 a1 hd ⊢
  rw [IntKind.wrap_u64]
  exact Tot.some ⟨aV_four (by omega) (by omega), hd⟩
theorem prefix_tot (d : exchangepointmake_Deck) (hd : DeckOk d) : Tot (exchangepointmake_Deck_Prefix d) (fun x => pV x.1 ∧ DeckOk x.2) := by
 unfold exchangepointmake_Deck_Prefix
 refine Tot.bindT (addr_tot d hd) ?_
 rintro ⟨a, d⟩ ⟨ha, hd⟩
 simp only at ha hd ⊢
 refine Tot.jnR (fun m : Int => m = (wid a.fV6 : Nat)) (fun j hj => ?_) (fun m hm => ?_)
 ·unfold wid at hj
  refine Tot.ite (fun h => hj _ (by rw [h]; rfl)) (fun h => hj _ (by rw [h]; rfl))
 ·subst hm
  have hw := wid_le a.fV6
  have hw2 := wid_pos a.fV6
  refine Tot.bindT (next_tot d hd 4 (by omega) (by omega)) ?_
  rintro ⟨r, d⟩ ⟨_, _, hd⟩
  simp only at hd ⊢
  refine Tot.jnR (fun m : Int × exchangepointmake_Deck => (0 ≤ m.1 ∧ m.1 ≤ (wid a.fV6 : Nat)) ∧ DeckOk m.2) (fun j hj => ?_) (fun m hm => ?_)
  ·refine Tot.ite (fun _ => ?_) (fun _ => Tot.ite (fun _ => ?_) (fun _ => Tot.ite (fun _ => ?_) (fun _ => hj _ ⟨⟨by simp only; omega, Int.le_refl _⟩, hd⟩)))
   ·rw [w64_id (by omega) (by omega)]
    refine Tot.bindT (next_tot d hd _ (by omega) (by omega)) ?_
    rintro ⟨b, d⟩ ⟨b0, b1, hd⟩
    simp only at b0 b1 hd
    exact hj _ ⟨⟨b0, by simp only; omega⟩, hd⟩
   ·refine Tot.bindT (next_tot d hd 9 (by omega) (by omega)) ?_
    rintro ⟨b, d⟩ ⟨b0, b1, hd⟩
    simp only at b0 b1 hd ⊢
    rw [w64_id (by omega) (by omega)]
    exact hj _ ⟨⟨by simp only; omega, by simp only; omega⟩, hd⟩
   ·refine Tot.bindT (next_tot d hd 5 (by omega) (by omega)) ?_
    rintro ⟨b, d⟩ ⟨b0, b1, hd⟩
    simp only at b0 b1 hd ⊢
    have e : b = 0 ∨ b = 1 ∨ b = 2 ∨ b = 3 ∨ b = 4 := by omega
    rcases e with rfl | rfl | rfl | rfl | rfl <;> exact Tot.bindOf rfl (hj _ ⟨⟨by simp, by simp only; omega⟩, hd⟩)
  ·obtain ⟨n, d⟩ := m
   obtain ⟨hn, hd⟩ := hm
   simp only at hn hd ⊢
   obtain ⟨k, rfl⟩ : ∃ k : Nat, n = k := ⟨n.toNat, by omega⟩
   refine Tot.bindOf (rmake_eq ha.1 _) ?_
   rw [makeF_ok ha (by omega)]
   exact Tot.some ⟨make_V ha (by omega), hd⟩
-- tables
def zR : api_Resources := api_Resources.mk [] []
def LimF (a : List api_Range) (s : List api_Span) : api_Resources × Int := if 256 < a.length ∨ 256 < s.length then (zR, 3) else (api_Resources.mk a s, 0)
theorem lim_eq (a : List api_Range) (s : List api_Span) : exchangepointref21_limited a s = some (LimF a s) := by
 refine Tot.eq ?_
 unfold exchangepointref21_limited LimF
 refine Tot.ite (fun h => Tot.some ?_) (fun h => Tot.some ?_)
 ·simp only [Bool.or_eq_true, decide_eq_true_eq] at h
  rw [if_pos (by omega)]; rfl
 ·simp only [Bool.or_eq_false_iff, decide_eq_false_iff_not] at h
  rw [if_neg (by omega)]
noncomputable def rangeP (p : api_Prefix) : api_Range := api_Range.mk p.fAddr (LastF p)
theorem rk_of {v : Bool} {a b : api_Addr} (h1 : a.fV6 = v) (h2 : b.fV6 = v) (h : nA a ≤ nA b) : rk a ≤ rk b := by
 unfold rk
 rw [h1, h2]
 split <;> omega
theorem rangeP_A {p : api_Prefix} (h : pV p) : aV (rangeP p).fFrom ∧ aV (rangeP p).fTo ∧ (rangeP p).fFrom.fV6 = (rangeP p).fTo.fV6 := ⟨h.addr, lastF_V h, rfl⟩
theorem rangeP_le {p : api_Prefix} (h : pV p) : rk (rangeP p).fFrom ≤ rk (rangeP p).fTo := by
 refine rk_of rfl rfl ?_
 have h1 := (cont_iff h).1 (lastF_cont h)
 show nA p.fAddr ≤ nA (LastF p)
 rw [← h1.2]
 exact cut_le _ _
structure OfOk (ps : List api_Prefix) (ss : List api_Span) (a : List api_Range) (s : List api_Span) : Prop where
 av : AVr a
 va : VL (a.map ivA)
 ia : ∀ n, inI n (a.map ivA) ↔ inI n ((ps.map rangeP).map ivA)
 sv : SVr s
 vs : VL (s.map ivS)
 is : ∀ n, inI n (s.map ivS) ↔ inI n (ss.map ivS)
 la : a.length ≤ ps.length
 ls : s.length ≤ ss.length
theorem rof_tot {ps : List api_Prefix} {ss : List api_Span} (hR : ∀ p ∈ ps, aR p.fAddr) (hl : ps.length ≤ 1000000) (hl2 : ss.length ≤ 1000000) :
  Tot (exchangepointref21_Of ps ss) (fun x => (((∀ p ∈ ps, pV p) ∧ SVr ss) → ∃ a s, OfOk ps ss a s ∧ x = LimF a s) ∧ (¬ ((∀ p ∈ ps, pV p) ∧ SVr ss) → x = (zR, 1))) := by
 unfold exchangepointref21_Of
 refine Tot.bindRng ps.length (fun k (b : List api_Range) => (((k : Nat) : Int), b)) (fun k b => (∀ p ∈ ps.take k, pV p) ∧ b = (ps.take k).map rangeP) (fun x => match x with | .inl _ => ¬ ∀ p ∈ ps, pV p | .inr b => (∀ p ∈ ps, pV p) ∧ b = ps.map rangeP) [] rfl ⟨fun p hp => by simp at hp, rfl⟩ (fun k b hk hb => ?_) (fun b hb => ?_) (fun x hx => ?_)
 ·obtain ⟨hb1, rfl⟩ := hb
  have hw : w64 ((k : Int) + 1) = ((k + 1 : Nat) : Int) := by rw [w64_id (by omega) (by omega)]; rfl
  unfold exchangepointref21_Of_L0
  refine Tot.iteT (by simpa using hk) (Tot.bindIdx k rfl hk (Tot.bindOf (rvalid_eq (hR _ (List.getElem_mem hk))) (Tot.ite (fun h => Tot.stop fun hs => ?_) (fun h => ?_))))
  ·rw [validF_iff.2 (hs _ (List.getElem_mem hk))] at h; cases h
  ·have hv := validF_iff.1 (show validF ps[k] = true by simpa using h)
   refine Tot.bindOf (rlast_eq hv) (Tot.chk (limB (by simp; omega)) (Tot.step ((ps.take k).map rangeP ++ [rangeP ps[k]]) (by rw [hw]; rfl) ⟨fun p hp => ?_, ?_⟩))
   ·rw [take_snoc hk] at hp
    rcases List.mem_append.1 hp with hp | hp
    ·exact hb1 p hp
    ·rw [List.mem_singleton.1 hp]; exact hv
   ·rw [take_snoc hk, List.map_append]; rfl
 ·unfold exchangepointref21_Of_L0
  refine Tot.iteF (by simp) (Tot.last ?_)
  rw [List.take_length] at hb
  exact hb
 cases x with
 | inl _ => exact Tot.some ⟨fun e => (hx e.1).elim, fun _ => rfl⟩
 | inr b =>
  obtain ⟨hp, rfl⟩ := hx
  refine Tot.bindRng ss.length (fun k (_ : Unit) => ((k : Nat) : Int)) (fun k _ => SVr (ss.take k)) (fun x => match x with | .inl _ => ¬ SVr ss | .inr _ => SVr ss) () rfl (fun p hp => by simp at hp) (fun k b hk hb => ?_) (fun b hb => ?_) (fun x hx => ?_)
  ·have hw : w64 ((k : Int) + 1) = ((k + 1 : Nat) : Int) := by rw [w64_id (by omega) (by omega)]; rfl
   unfold exchangepointref21_Of_L1
   refine Tot.iteT (by simpa using hk) (Tot.bindIdx k rfl hk (Tot.ite (fun h => Tot.stop fun hs => ?_) (fun h => Tot.step () (by rw [hw]) fun x hx => ?_)))
   ·obtain ⟨h1, h2, h3⟩ := hs _ (List.getElem_mem hk)
    simp only [Bool.or_eq_true, decide_eq_true_eq] at h
    omega
   ·rw [take_snoc hk] at hx
    rcases List.mem_append.1 hx with hx | hx
    ·exact hb x hx
    ·rw [List.mem_singleton.1 hx]
     simp only [Bool.or_eq_false_iff, decide_eq_false_iff_not] at h
     unfold okN
     omega
  ·unfold exchangepointref21_Of_L1
   refine Tot.iteF (by simp) (Tot.last ?_)
   rw [List.take_length] at hb
   exact hb
  cases x with
  | inl _ => exact Tot.some ⟨fun e => (hx e.2).elim, fun _ => rfl⟩
  | inr _ =>
   have hs : SVr ss := hx
   have hA : AVr (ps.map rangeP) := fun x hx => by
    obtain ⟨p, hp2, rfl⟩ := List.mem_map.1 hx
    exact rangeP_A (hp p hp2)
   have hok : okI ((ps.map rangeP).map ivA) := fun y hy => by
    obtain ⟨x, hx, rfl⟩ := List.mem_map.1 hy
    obtain ⟨p, hp2, rfl⟩ := List.mem_map.1 hx
    exact rangeP_le (hp p hp2)
   refine Tot.bindT (ranges_tot hA hok (by simpa using hl)) fun a ha => Tot.bindT (spans_tot hs hl2) fun s hs2 => Tot.bindOf (lim_eq a s) (Tot.some ⟨fun _ => ⟨a, s, ⟨ha.1, ha.2.1, ha.2.2.1, hs2.1, hs2.2.1, hs2.2.2.1, by simpa using ha.2.2.2, hs2.2.2.2⟩, rfl⟩, fun e => (e ⟨hp, hs⟩).elim⟩)
end Go.Proofs.YtgfoabcickjphaaDoor
