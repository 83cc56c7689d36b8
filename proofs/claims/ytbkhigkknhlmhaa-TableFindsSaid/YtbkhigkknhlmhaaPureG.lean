/- Tables in plain Lean: valid ones, entries put in, found, taken out and looked up. -/
import Derived.Test.YtbkhigkknhlmhaaPureE
namespace Go.Proofs.Ytbkhigkknhlmhaa
open Go Go.Vc

theorem mod_eq (a m : Int) (hm : 0 < m) (hb : m ≤ 4611686018427387904) : exchangepointmake_Mod a m = some (a % m) := by
  obtain ⟨h0, h1⟩ := emod_lt' a hm
  unfold exchangepointmake_Mod
  refine chk_of (by simp; omega) ?_
  unfold jn
  rcases tmod_emod a hm with h | ⟨h, hn⟩
  · rw [h]
    exact ite_of_f (by simp; omega) rfl
  · rw [h]
    refine ite_of_t (by simp; omega) ?_
    rw [show a % m - m + m = a % m from by omega, w64_id (by omega) (by omega)]
def DeckOk (d : exchangepointmake_Deck) : Prop := 0 ≤ d.fAt ∧ d.fAt ≤ d.fL.length ∧ d.fL.length ≤ 9223372036854775807
theorem next_tot (d : exchangepointmake_Deck) (hd : DeckOk d) (n : Int) (hn : 0 < n) (hn' : n ≤ 4611686018427387904) : Tot (exchangepointmake_Deck_Next d n) (fun x => 0 ≤ x.1 ∧ x.1 < n ∧ DeckOk x.2) := by
  obtain ⟨h0, h1, h2⟩ := hd
  unfold exchangepointmake_Deck_Next
  by_cases h : (d.fL.length : Int) ≤ d.fAt
  · exact Tot.iteT (by simpa using h) (Tot.some ⟨by simp, hn, h0, h1, h2⟩)
  · obtain ⟨k, hk⟩ : ∃ k : Nat, d.fAt = k := ⟨d.fAt.toNat, by omega⟩
    have hlt : k < d.fL.length := by omega
    obtain ⟨m0, m1⟩ := emod_lt' d.fL[k] hn
    refine Tot.iteF (by simpa using h) ?_
    rw [w64_id (n := d.fAt + 1) (by omega) (by omega), w64_id (n := d.fAt + 1 - 1) (by omega) (by omega), show d.fAt + 1 - 1 = (k : Int) from by omega]
    refine Tot.bindIdx k rfl hlt (Tot.bindOf (mod_eq _ n hn hn') (Tot.some ⟨m0, m1, by simp only; omega, by simp only; omega, h2⟩))
theorem new_ok (l : List Int) (hl : l.length ≤ 9223372036854775807) : DeckOk ⟨l, 0⟩ := ⟨Int.le_refl _, by simp only; omega, hl⟩
theorem i64_id {n : Int} (h : -9223372036854775808 ≤ n) (h' : n ≤ 9223372036854775807) : IntKind.i64.wrap n = n := by
  rw [IntWalk.i64_left, IntWalk.wrap64_in n ⟨h, h'⟩]
theorem u64_rng (n : Int) : 0 ≤ IntKind.u64.wrap n ∧ IntKind.u64.wrap n < 18446744073709551616 := by
  rw [IntKind.wrap_u64]; omega
theorem aV_four {n : Int} (h0 : 0 ≤ n) (h1 : n < 4294967296) : aV (api_Addr.mk false 0 n) := ⟨⟨⟨by simp, by simp⟩, h0, by simp only; omega⟩, .inr ⟨rfl, h1⟩⟩
theorem aV_six {m n : Int} (h0 : 0 ≤ m ∧ m < 18446744073709551616) (h1 : 0 ≤ n ∧ n < 18446744073709551616) : aV (api_Addr.mk true m n) := ⟨⟨h0, h1⟩, .inl rfl⟩
theorem addr_tot (d : exchangepointmake_Deck) (hd : DeckOk d) : Tot (exchangepointmake_Deck_Addr d) (fun x => aV x.1 ∧ DeckOk x.2) := by
  unfold exchangepointmake_Deck_Addr
  refine Tot.bindT (next_tot d hd 6 (by omega) (by omega)) ?_
  rintro ⟨r, d⟩ ⟨_, _, hd⟩
  simp only at hd ⊢
  refine Tot.ite (fun _ => ?_) (fun _ => Tot.ite (fun _ => ?_) (fun _ => Tot.ite (fun _ => ?_) (fun _ => Tot.ite (fun _ => ?_) (fun _ => Tot.ite (fun _ => ?_) (fun _ => ?_)))))
  · refine Tot.bindT (next_tot d hd 8 (by omega) (by omega)) ?_
    rintro ⟨a, d⟩ ⟨a0, a1, hd⟩
    refine Tot.bindT (next_tot d hd 4 (by omega) (by omega)) ?_
    rintro ⟨b, d⟩ ⟨b0, b1, hd⟩
    simp only at a0 a1 b0 b1 hd ⊢
    have e : shlI .i64 a 8 = a * 256 := by
      show IntKind.i64.wrap (a * 256) = _
      rw [i64_id (by omega) (by omega)]
    rw [e, w64_id (n := 167772160 + a * 256) (by omega) (by omega), w64_id (n := 167772160 + a * 256 + b) (by omega) (by omega), IntKind.wrap_u64]
    exact Tot.some ⟨aV_four (by omega) (by omega), hd⟩
  · refine Tot.bindT (next_tot d hd 4 (by omega) (by omega)) ?_
    rintro ⟨a, d⟩ ⟨a0, a1, hd⟩
    refine Tot.bindT (next_tot d hd 8 (by omega) (by omega)) ?_
    rintro ⟨b, d⟩ ⟨b0, b1, hd⟩
    exact Tot.some ⟨aV_six (u64_rng _) (u64_rng _), hd⟩
  · refine Tot.bindT (next_tot d hd 5 (by omega) (by omega)) ?_
    rintro ⟨a, d⟩ ⟨a0, a1, hd⟩
    simp only at a0 a1 hd ⊢
    have e : a = 0 ∨ a = 1 ∨ a = 2 ∨ a = 3 ∨ a = 4 := by omega
    rcases e with rfl | rfl | rfl | rfl | rfl <;> exact Tot.bindOf rfl (Tot.some ⟨aV_four (by decide) (by decide), hd⟩)
  · refine Tot.bindT (next_tot d hd 4 (by omega) (by omega)) ?_
    rintro ⟨a, d⟩ ⟨a0, a1, hd⟩
    simp only at a0 a1 hd ⊢
    have key : ∀ x : Int, 0 ≤ x → x < 4 → Tot (idx ([(0 : Int), (1 : Int), (18446744073709551615 : Int), (9223372036854775808 : Int)] : List Int) x) (fun y => 0 ≤ y ∧ y < 18446744073709551616) := fun x h0 h1 => by
      have e : x = 0 ∨ x = 1 ∨ x = 2 ∨ x = 3 := by omega
      rcases e with rfl | rfl | rfl | rfl <;> exact ⟨_, rfl, by decide, by decide⟩
    refine Tot.bindT (key a a0 a1) fun x hx => Tot.bindT (next_tot d hd 4 (by omega) (by omega)) ?_
    rintro ⟨b, d⟩ ⟨b0, b1, hd⟩
    exact Tot.bindT (key b b0 b1) fun y hy => Tot.some ⟨aV_six hx hy, hd⟩
  · refine Tot.bindT (next_tot d hd 1073741824 (by omega) (by omega)) ?_
    rintro ⟨a, d⟩ ⟨_, _, hd⟩
    refine Tot.bindT (next_tot d hd 5 (by omega) (by omega)) ?_
    rintro ⟨b, d⟩ ⟨_, _, hd⟩
    refine Tot.bindT (next_tot d hd 1073741824 (by omega) (by omega)) ?_
    rintro ⟨c, d⟩ ⟨_, _, hd⟩
    refine Tot.bindT (next_tot d hd 5 (by omega) (by omega)) ?_
    rintro ⟨e, d⟩ ⟨_, _, hd⟩
    exact Tot.some ⟨aV_six (u64_rng _) (u64_rng _), hd⟩
  · refine Tot.bindT (next_tot d hd 1073741824 (by omega) (by omega)) ?_
    rintro ⟨a, d⟩ ⟨a0, a1, hd⟩
    simp only at a0 a1 hd ⊢
    rw [IntKind.wrap_u64]
    exact Tot.some ⟨aV_four (by omega) (by omega), hd⟩
theorem prefix_tot (d : exchangepointmake_Deck) (hd : DeckOk d) : Tot (exchangepointmake_Deck_Prefix d) (fun x => pV x.1 ∧ DeckOk x.2) := by
  unfold exchangepointmake_Deck_Prefix
  refine Tot.bindT (addr_tot d hd) ?_
  rintro ⟨a, d⟩ ⟨ha, hd⟩
  simp only at ha hd ⊢
  refine Tot.jnR (fun m : Int => m = (wid a.fV6 : Nat)) (fun j hj => ?_) (fun m hm => ?_)
  · unfold wid at hj
    refine Tot.ite (fun h => hj _ (by rw [h]; rfl)) (fun h => hj _ (by rw [h]; rfl))
  · subst hm
    have hw := wid_le a.fV6
    have hw2 := wid_pos a.fV6
    refine Tot.bindT (next_tot d hd 4 (by omega) (by omega)) ?_
    rintro ⟨r, d⟩ ⟨_, _, hd⟩
    simp only at hd ⊢
    refine Tot.jnR (fun m : Int × exchangepointmake_Deck => (0 ≤ m.1 ∧ m.1 ≤ (wid a.fV6 : Nat)) ∧ DeckOk m.2) (fun j hj => ?_) (fun m hm => ?_)
    · refine Tot.ite (fun _ => ?_) (fun _ => Tot.ite (fun _ => ?_) (fun _ => Tot.ite (fun _ => ?_) (fun _ => hj _ ⟨⟨by simp only; omega, Int.le_refl _⟩, hd⟩)))
      · rw [w64_id (by omega) (by omega)]
        refine Tot.bindT (next_tot d hd _ (by omega) (by omega)) ?_
        rintro ⟨b, d⟩ ⟨b0, b1, hd⟩
        simp only at b0 b1 hd
        exact hj _ ⟨⟨b0, by simp only; omega⟩, hd⟩
      · refine Tot.bindT (next_tot d hd 9 (by omega) (by omega)) ?_
        rintro ⟨b, d⟩ ⟨b0, b1, hd⟩
        simp only at b0 b1 hd ⊢
        rw [w64_id (by omega) (by omega)]
        exact hj _ ⟨⟨by simp only; omega, by simp only; omega⟩, hd⟩
      · refine Tot.bindT (next_tot d hd 5 (by omega) (by omega)) ?_
        rintro ⟨b, d⟩ ⟨b0, b1, hd⟩
        simp only at b0 b1 hd ⊢
        have e : b = 0 ∨ b = 1 ∨ b = 2 ∨ b = 3 ∨ b = 4 := by omega
        rcases e with rfl | rfl | rfl | rfl | rfl <;> exact Tot.bindOf rfl (hj _ ⟨⟨by simp, by simp only; omega⟩, hd⟩)
    · obtain ⟨n, d⟩ := m
      obtain ⟨hn, hd⟩ := hm
      simp only at hn hd ⊢
      obtain ⟨k, rfl⟩ : ∃ k : Nat, n = k := ⟨n.toNat, by omega⟩
      refine Tot.bindOf (rmake_eq ha.1 _) ?_
      rw [makeF_ok ha (by omega)]
      exact Tot.some ⟨make_V ha (by omega), hd⟩

-- tables

def TV (t : List api_Entry) : Prop := (∀ e ∈ t, pV e.fPrefix) ∧ t.Pairwise fun a b => pLt a.fPrefix b.fPrefix
def TR (t : List api_Entry) : Prop := ∀ e ∈ t, aR e.fPrefix.fAddr
theorem TV.R {t : List api_Entry} (h : TV t) : TR t := fun e he => (h.1 e he).addr.1
theorem tv_nil : TV [] := ⟨fun _ h => (by cases h), .nil⟩
theorem tv_take_succ {t : List api_Entry} {k : Nat} (hk : k < t.length) (h : TV (t.take k)) (hs : pV t[k].fPrefix) (hp : ∀ m (_ : k = m + 1), pLt (t[m]'(by omega)).fPrefix t[k].fPrefix) : TV (t.take (k + 1)) := by
  rw [take_snoc hk]
  refine ⟨fun s hm => ?_, ?_⟩
  · rcases List.mem_append.1 hm with hm | hm
    · exact h.1 s hm
    · rw [List.mem_singleton.1 hm]; exact hs
  · rw [List.pairwise_append]
    refine ⟨h.2, List.pairwise_singleton _ _, fun x hx y hy => ?_⟩
    rw [List.mem_singleton.1 hy]
    cases k with
    | zero => simp at hx
    | succ m =>
      have hm := hp m rfl
      have h2 := h.2
      have h3 := h.1 x hx
      have h4 := h.1 t[m] (by rw [take_snoc (by omega : m < t.length)]; exact List.mem_append_right _ (List.mem_singleton.2 rfl))
      rw [take_snoc (by omega : m < t.length)] at hx h2
      rcases List.mem_append.1 hx with hx | hx
      · rw [List.pairwise_append] at h2
        exact pLt_trans h3.addr.1 h4.addr.1 hs.addr.1 (h2.2.2 x hx t[m] (List.mem_singleton.2 rfl)) hm
      · rw [List.mem_singleton.1 hx]; exact hm
theorem prev_mem {α : Type} {l : List α} {m : Nat} (h : m < l.length) : l[m] ∈ l.take (m + 1) := by
  rw [take_snoc h]; exact List.mem_append_right _ (List.mem_singleton.2 rfl)
open Classical in
noncomputable def ValidT (t : List api_Entry) : Bool := decide (TV t ∧ t.length ≤ 512)
open Classical in
theorem validT_iff {t : List api_Entry} : ValidT t = true ↔ TV t ∧ t.length ≤ 512 := by unfold ValidT; rw [decide_eq_true_iff]
theorem tvalid_eq {t : List api_Entry} (hr : TR t) (hl : t.length ≤ 4611686018427387904) : table_Valid t = some (ValidT t) := by
  suffices h : Tot (table_Valid t) (fun b => b = true ↔ TV t ∧ t.length ≤ 512) from Tot.eq (h.mono fun b hb => by rw [Bool.eq_iff_iff, hb, validT_iff])
  unfold table_Valid
  refine Tot.bindRng t.length (fun k (_ : Unit) => ((k : Nat) : Int)) (fun k _ => TV (t.take k)) (fun x => match x with | .inl _ => ¬ TV t | .inr _ => TV t) () rfl tv_nil (fun k b hk hb => ?_) (fun b hb => ?_) (fun x hx => ?_)
  · unfold table_Valid_L0
    have hw : w64 ((k : Int) + 1) = ((k + 1 : Nat) : Int) := by rw [w64_id (by omega) (by omega)]; rfl
    have hrk := hr _ (List.getElem_mem hk)
    refine Tot.iteT (by simpa using hk) (Tot.bindIdx k rfl hk ?_)
    refine Tot.jnR (fun m : Bool => (m = true → ¬ TV t) ∧ (m = false → TV (t.take (k + 1)))) (fun j hj => ?_) (fun m hm => Tot.ite (fun h => Tot.stop (hm.1 h)) (fun h => Tot.step () hw (hm.2 h)))
    refine Tot.bindOf (pvalid_eq hrk) (Tot.ite (fun h => hj true ⟨fun _ ho => ?_, fun e => by cases e⟩) (fun h => ?_))
    · rw [validF_iff.2 (ho.1 _ (List.getElem_mem hk))] at h; cases h
    · have hs : pV t[k].fPrefix := validF_iff.1 (by simpa using h)
      refine Tot.ite (fun h2 => ?_) (fun h2 => ?_)
      · obtain ⟨m, rfl⟩ : ∃ m, k = m + 1 := ⟨k - 1, by simp at h2; omega⟩
        have hp : pV (t[m]'(by omega)).fPrefix := hb.1 _ (prev_mem (by omega))
        refine Tot.bindIdx m (cast_pred_w (n := t.length) (by omega) hl) (by omega) (Tot.bindOf (pcmp_eq hp.addr.1 hs.addr.1) (hj _ ⟨fun e ho => ?_, fun e => ?_⟩))
        · have := List.pairwise_iff_getElem.1 ho.2 m (m + 1) (by omega) hk (by omega)
          have := (cmpP_lt _ _).2 this
          have e := of_decide_eq_true e
          omega
        · refine tv_take_succ hk hb hs fun m' em => ?_
          obtain rfl : m = m' := by omega
          have e := of_decide_eq_false e
          exact (cmpP_lt _ _).1 (by omega)
      · have : k = 0 := by simpa using h2
        exact hj false ⟨fun e => (by cases e), fun _ => tv_take_succ hk hb hs fun m em => by omega⟩
  · unfold table_Valid_L0
    refine Tot.iteF (by simp) (Tot.last ?_)
    rw [List.take_length] at hb
    exact hb
  · cases x with
    | inl _ => exact Tot.some ⟨fun e => (by cases e), fun e => absurd e.1 hx⟩
    | inr _ => exact Tot.some ⟨fun e => ⟨hx, by simp at e; omega⟩, fun e => by simp; omega⟩
theorem rtvalid_eq {t : List api_Entry} (hr : TR t) (hl : t.length ≤ 4611686018427387904) : exchangepointref03_Valid t = some (ValidT t) := by
  suffices h : Tot (exchangepointref03_Valid t) (fun b => b = true ↔ TV t ∧ t.length ≤ 512) from Tot.eq (h.mono fun b hb => by rw [Bool.eq_iff_iff, hb, validT_iff])
  unfold exchangepointref03_Valid
  refine Tot.bindRng t.length (fun k (_ : Unit) => ((k : Nat) : Int)) (fun k _ => TV (t.take k)) (fun x => match x with | .inl _ => ¬ TV t | .inr _ => TV t) () rfl tv_nil (fun k b hk hb => ?_) (fun b hb => ?_) (fun x hx => ?_)
  · unfold exchangepointref03_Valid_L0
    have hw : w64 ((k : Int) + 1) = ((k + 1 : Nat) : Int) := by rw [w64_id (by omega) (by omega)]; rfl
    have hrk := hr _ (List.getElem_mem hk)
    refine Tot.iteT (by simpa using hk) (Tot.bindIdx k rfl hk ?_)
    refine Tot.jnR (fun m : Bool => (m = true → ¬ TV t) ∧ (m = false → TV (t.take (k + 1)))) (fun j hj => ?_) (fun m hm => Tot.ite (fun h => Tot.stop (hm.1 h)) (fun h => Tot.step () hw (hm.2 h)))
    refine Tot.bindOf (rvalid_eq hrk) (Tot.ite (fun h => hj true ⟨fun _ ho => ?_, fun e => by cases e⟩) (fun h => ?_))
    · rw [validF_iff.2 (ho.1 _ (List.getElem_mem hk))] at h; cases h
    · have hs : pV t[k].fPrefix := validF_iff.1 (by simpa using h)
      refine Tot.ite (fun h2 => ?_) (fun h2 => ?_)
      · obtain ⟨m, rfl⟩ : ∃ m, k = m + 1 := ⟨k - 1, by simp at h2; omega⟩
        have hp : pV (t[m]'(by omega)).fPrefix := hb.1 _ (prev_mem (by omega))
        refine Tot.bindIdx m (cast_pred_w (n := t.length) (by omega) hl) (by omega) (Tot.bindOf (rpcmp_eq hp.addr.1 hs.addr.1) (hj _ ⟨fun e ho => ?_, fun e => ?_⟩))
        · have := List.pairwise_iff_getElem.1 ho.2 m (m + 1) (by omega) hk (by omega)
          have := (cmpP_lt _ _).2 this
          have e := of_decide_eq_true e
          omega
        · refine tv_take_succ hk hb hs fun m' em => ?_
          obtain rfl : m = m' := by omega
          have e := of_decide_eq_false e
          exact (cmpP_lt _ _).1 (by omega)
      · have : k = 0 := by simpa using h2
        exact hj false ⟨fun e => (by cases e), fun _ => tv_take_succ hk hb hs fun m em => by omega⟩
  · unfold exchangepointref03_Valid_L0
    refine Tot.iteF (by simp) (Tot.last ?_)
    rw [List.take_length] at hb
    exact hb
  · cases x with
    | inl _ => exact Tot.some ⟨fun e => (by cases e), fun e => absurd e.1 hx⟩
    | inr _ => exact Tot.some ⟨fun e => ⟨hx, by simp at e; omega⟩, fun e => by simp; omega⟩
/-- a table with a value put in -/
def SetL : List api_Entry → api_Prefix → Int → List api_Entry
  | [], p, v => [api_Entry.mk p v]
  | x :: t, p, v => if pLt x.fPrefix p then x :: SetL t p v else if x.fPrefix = p then api_Entry.mk p v :: t else api_Entry.mk p v :: x :: t
theorem set_split (p : api_Prefix) (v : Int) : ∀ (k : Nat) (t : List api_Entry), k ≤ t.length → (∀ x ∈ t.take k, pLt x.fPrefix p) → SetL t p v = t.take k ++ SetL (t.drop k) p v
  | 0, t, _, _ => by simp
  | k + 1, [], h, _ => by simp at h
  | k + 1, x :: t, h, hx => by
    rw [List.take_succ_cons, List.drop_succ_cons]
    have h1 := hx x (by rw [List.take_succ_cons]; exact List.mem_cons_self)
    rw [SetL, if_pos h1, set_split p v k t (by simpa using h) (fun y hy => hx y (by rw [List.take_succ_cons]; exact List.mem_cons_of_mem _ hy))]
    rfl
theorem set_len (p : api_Prefix) (v : Int) : ∀ t : List api_Entry, (SetL t p v).length ≤ t.length + 1
  | [] => by simp [SetL]
  | x :: t => by
    have := set_len p v t
    unfold SetL
    split
    · simp; omega
    · split <;> simp
theorem drop_cons' {α : Type} {l : List α} {k : Nat} (h : k < l.length) : l.drop k = l[k] :: l.drop (k + 1) := List.drop_eq_getElem_cons h
theorem rset_eq {t : List api_Entry} {p : api_Prefix} (v : Int) (hr : TR t) (hp : aR p.fAddr) (hl : t.length ≤ 1000000000) : exchangepointref03_set t p v = some (SetL t p v) := by
  refine Tot.eq ?_
  unfold exchangepointref03_set
  refine Tot.bindLoop (fun s : Int => ∃ k : Nat, s = (k : Int) ∧ k ≤ t.length ∧ ∀ x ∈ t.take k, pLt x.fPrefix p) (fun s => t.length - s.toNat) (fun s : Int => ∃ k : Nat, s = (k : Int) ∧ k ≤ t.length ∧ (∀ x ∈ t.take k, pLt x.fPrefix p) ∧ ∀ h : k < t.length, ¬ pLt t[k].fPrefix p) ⟨0, rfl, Nat.zero_le _, by simp⟩ ?_ ?_
  · rintro s ⟨k, rfl, hk, hall⟩
    unfold exchangepointref03_set_L0
    refine Tot.jn (Tot.ite (fun h => ?_) (fun h => ?_))
    · have hlt : k < t.length := by simpa using h
      refine Tot.bindIdx k rfl hlt (Tot.bindOf (rpcmp_eq (hr _ (List.getElem_mem hlt)) hp) ?_)
      have hc := cmpP_lt t[k].fPrefix p
      refine Tot.ite (fun h2 => ?_) (fun h2 => ?_)
      · have hc := hc.1 (of_decide_eq_true h2)
        have hw : w64 ((k : Int) + 1) = ((k + 1 : Nat) : Int) := by rw [w64_id (by omega) (by omega)]; rfl
        rw [hw]
        refine Tot.next ⟨k + 1, rfl, hlt, fun x hx => ?_⟩ (by simp only [Int.toNat_natCast]; omega)
        rw [take_snoc hlt] at hx
        rcases List.mem_append.1 hx with hx | hx
        · exact hall x hx
        · rw [List.mem_singleton.1 hx]; exact hc
      · exact Tot.out ⟨k, rfl, hk, hall, fun _ e => of_decide_eq_false h2 (hc.2 e)⟩
    · refine Tot.iteF rfl (Tot.out ⟨k, rfl, hk, hall, fun hlt => ?_⟩)
      simp at h; omega
  · rintro s ⟨k, rfl, hk, hall, hnot⟩
    have hsp := set_split p v k t hk hall
    simp only [Int.toNat_natCast, List.drop_zero, List.take_length]
    have hld : (t.drop k).length = t.length - k := List.length_drop
    have hlt' : (t.take k).length = k := by rw [List.length_take]; omega
    refine Tot.chk (by simp; omega) ?_
    have fin : ∀ m39 : List api_Entry, m39.length ≤ t.length → t.take k ++ SetL (t.drop k) p v = (t.take k ++ [api_Entry.mk p v]) ++ m39 → Tot (chk ((decide (0 ≤ (k : Int)) && decide (0 ≤ k) && decide (k ≤ t.length))) <| chk (decide ((t.take k).length ≤ LIM)) <| chk (decide ((t.take k ++ ([(api_Entry.mk p v)] : List api_Entry)).length ≤ LIM)) <|
        chk (decide (((t.take k ++ ([(api_Entry.mk p v)] : List api_Entry)) ++ m39).length ≤ LIM)) <| some ((t.take k ++ ([(api_Entry.mk p v)] : List api_Entry)) ++ m39)) (fun x => x = SetL t p v) := fun m39 hm e => by
      refine Tot.chk (by simp; omega) (Tot.chk (limB (by omega)) (Tot.chk (limB (by simp only [List.length_append, hlt', List.length_singleton]; omega)) (Tot.chk (limB (by simp only [List.length_append, hlt', List.length_singleton]; omega)) (Tot.some ?_))))
      rw [hsp, e]
    refine Tot.jnR (fun m : Bool => m = true ↔ ∃ h : k < t.length, t[k].fPrefix = p) (fun j hj => ?_) (fun m hm => ?_)
    · refine Tot.ite (fun h => ?_) (fun h => hj _ ⟨fun e => (by cases e), fun ⟨h2, _⟩ => ?_⟩)
      · have hlt : k < t.length := by simp at h; omega
        refine Tot.bindIdx 0 rfl (by omega) (hj _ ?_)
        have e0 : (t.drop k)[0]'(by omega) = t[k] := by simp
        rw [e0]
        exact ⟨fun e => ⟨hlt, peq_iff.1 e⟩, fun ⟨_, e⟩ => peq_iff.2 e⟩
      · simp at h; omega
    · refine Tot.jn (Tot.ite (fun h => ?_) (fun h => ?_))
      · obtain ⟨hlt, hpe⟩ := hm.1 h
        refine Tot.chk (by simp; omega) (fin _ (by simp) ?_)
        rw [drop_cons' hlt]
        rw [SetL, if_neg (hnot hlt), if_pos hpe]
        simp
      · refine fin _ (by simp) ?_
        by_cases hlt : k < t.length
        · rw [drop_cons' hlt, SetL, if_neg (hnot hlt), if_neg fun e => ?_]
          · simp
          · rw [hm.2 ⟨hlt, e⟩] at h; cases h
        · rw [List.drop_eq_nil_of_le (by omega)]
          simp [SetL]
noncomputable def PutF (t : List api_Entry) (p : api_Prefix) (v : Int) : List api_Entry × Int :=
  if ValidT t = true ∧ validF p = true then (if 512 < (SetL t p v).length then ([], 3) else (SetL t p v, 0)) else ([], 1)
theorem rput_eq {t : List api_Entry} {p : api_Prefix} (v : Int) (hr : TR t) (hp : aR p.fAddr) (hl : t.length ≤ 1000000000) : exchangepointref03_Put t p v = some (PutF t p v) := by
  refine Tot.eq ?_
  unfold exchangepointref03_Put PutF
  refine Tot.jnR (fun m : Bool => m = !(ValidT t && validF p)) (fun j hj => ?_) (fun m hm => ?_)
  · refine Tot.bindOf (rtvalid_eq hr (by omega)) (Tot.ite (fun h => hj true ?_) (fun h => Tot.bindOf (rvalid_eq hp) (hj _ ?_)))
    · have h : ValidT t = false := by simpa using h
      rw [h]; rfl
    · have h : ValidT t = true := by simpa using h
      rw [h]; rfl
  · subst hm
    by_cases hv : ValidT t = true ∧ validF p = true
    · rw [if_pos hv]
      refine Tot.iteF (by rw [hv.1, hv.2]; rfl) (Tot.bindOf (rset_eq v hr hp hl) (Tot.ite (fun h => Tot.some ?_) (fun h => Tot.some ?_)))
      · rw [if_pos (by simp at h; omega)]
      · rw [if_neg (by simp at h; omega)]
    · rw [if_neg hv]
      refine Tot.iteT ?_ (Tot.some rfl)
      cases h1 : ValidT t <;> cases h2 : validF p <;> simp_all
theorem setL_mem {p : api_Prefix} {v : Int} {x : api_Entry} : ∀ {t : List api_Entry}, x ∈ SetL t p v → x ∈ t ∨ x = api_Entry.mk p v
  | [], h => .inr (by simpa [SetL] using h)
  | y :: t, h => by
    unfold SetL at h
    split at h
    · rcases List.mem_cons.1 h with rfl | h
      · exact .inl List.mem_cons_self
      · rcases setL_mem h with g | g
        · exact .inl (List.mem_cons_of_mem _ g)
        · exact .inr g
    · split at h
      · rcases List.mem_cons.1 h with rfl | h
        · exact .inr rfl
        · exact .inl (List.mem_cons_of_mem _ h)
      · rcases List.mem_cons.1 h with rfl | h
        · exact .inr rfl
        · exact .inl h
theorem setL_V {p : api_Prefix} (hp : pV p) (v : Int) : ∀ {t : List api_Entry}, TV t → TV (SetL t p v)
  | [], _ => ⟨fun e he => by
      have : e = api_Entry.mk p v := by simpa [SetL] using he
      rw [this]; exact hp, by simp [SetL]⟩
  | y :: t, h => by
    have hy := h.1 y List.mem_cons_self
    have ht : TV t := ⟨fun e he => h.1 e (List.mem_cons_of_mem _ he), (List.pairwise_cons.1 h.2).2⟩
    have hlt := (List.pairwise_cons.1 h.2).1
    refine ⟨fun e he => ?_, ?_⟩
    · rcases setL_mem he with g | rfl
      · exact h.1 e g
      · exact hp
    · unfold SetL
      split
      · rename_i h1
        have ih := setL_V hp v ht
        refine List.pairwise_cons.2 ⟨fun x hx => ?_, ih.2⟩
        rcases setL_mem hx with g | rfl
        · exact hlt x g
        · exact h1
      · rename_i h1
        split
        · rename_i h2
          refine List.pairwise_cons.2 ⟨fun x hx => ?_, ht.2⟩
          have := hlt x hx
          rw [h2] at this; exact this
        · rename_i h2
          have h3 : pLt p y.fPrefix := by
            by_cases e : pLt p y.fPrefix
            · exact e
            · exact (h2 (pLt_tri hy.addr.1 hp.addr.1 h1 e)).elim
          refine List.pairwise_cons.2 ⟨fun x hx => ?_, h.2⟩
          rcases List.mem_cons.1 hx with rfl | hx
          · exact h3
          · exact pLt_trans hp.addr.1 hy.addr.1 (h.1 x (List.mem_cons_of_mem _ hx)).addr.1 h3 (hlt x hx)
theorem table_tot (d : exchangepointmake_Deck) (hd : DeckOk d) : Tot (exchangepointmake_Deck_Table d) (fun x => (TV x.1 ∧ x.1.length ≤ 23) ∧ DeckOk x.2) := by
  unfold exchangepointmake_Deck_Table
  refine Tot.bindT (next_tot d hd 24 (by omega) (by omega)) ?_
  rintro ⟨n, d⟩ ⟨n0, n1, hd⟩
  simp only at n0 n1 hd ⊢
  refine Tot.bindLoop (fun s : List api_Entry × Int × exchangepointmake_Deck => 0 ≤ s.2.1 ∧ s.2.1 + s.1.length ≤ 23 ∧ TV s.1 ∧ DeckOk s.2.2) (fun s => s.2.1.toNat) (fun x => (TV x.1 ∧ x.1.length ≤ 23) ∧ DeckOk x.2) ⟨n0, by simp; omega, tv_nil, hd⟩ ?_ (fun x hx => Tot.some hx)
  rintro ⟨t, k, d⟩ ⟨h1, h2, ht, hd⟩
  simp only at h1 h2 ht hd
  unfold exchangepointmake_Deck_Table_L0
  simp only
  refine Tot.ite (fun hc => ?_) (fun hc => Tot.out ⟨⟨ht, by simp only; omega⟩, hd⟩)
  have hk : 0 < k := by simpa using hc
  refine Tot.bindT (prefix_tot d hd) ?_
  rintro ⟨p, d⟩ ⟨hp, hd⟩
  simp only at hp hd ⊢
  refine Tot.jnR (fun m : Bool × exchangepointmake_Deck => (m.1 = true → 0 < t.length) ∧ DeckOk m.2) (fun j hj => ?_) (fun m hm => ?_)
  · refine Tot.ite (fun h => ?_) (fun h => hj _ ⟨fun e => (by cases e), hd⟩)
    refine Tot.bindT (next_tot d hd 2 (by omega) (by omega)) ?_
    rintro ⟨b, d⟩ ⟨b0, b1, hd⟩
    exact hj _ ⟨fun _ => (by have := of_decide_eq_true h; omega), hd⟩
  · obtain ⟨b, d⟩ := m
    obtain ⟨hb, hd⟩ := hm
    simp only at hb hd ⊢
    refine Tot.jnR (fun m : api_Prefix × exchangepointmake_Deck => pV m.1 ∧ DeckOk m.2) (fun j hj => ?_) (fun m hm => ?_)
    · refine Tot.ite (fun h => ?_) (fun h => hj _ ⟨hp, hd⟩)
      have hpos := hb h
      refine Tot.bindT (next_tot d hd _ (by omega) (by omega)) ?_
      rintro ⟨i, d⟩ ⟨i0, i1, hd⟩
      simp only at i0 i1 hd ⊢
      obtain ⟨i, rfl⟩ : ∃ n : Nat, i = n := ⟨i.toNat, by omega⟩
      refine Tot.bindIdx i rfl (by omega) ?_
      have hx := ht.1 _ (List.getElem_mem (show i < t.length by omega))
      generalize t[i]'(by omega) = x at hx
      have hx0 := hx.len0
      have hx1 := hx.len1
      refine Tot.bindOf (rhalves_eq hx.addr.1) ?_
      have pick : ∀ (P Q : api_Prefix) (d : exchangepointmake_Deck), pV P → pV Q → DeckOk d → ∀ (j : api_Prefix × exchangepointmake_Deck → Option (((List api_Entry × exchangepointmake_Deck)) ⊕ (List api_Entry × Int × exchangepointmake_Deck))) {R}, (∀ m, (pV m.1 ∧ DeckOk m.2) → Tot (j m) R) → Tot ((exchangepointmake_Deck_Next d (2 : Int)).bind fun r149 => (idx ([P, Q] : List api_Prefix) r149.1).bind fun x150 => j (x150, r149.2)) R := by
        intro P Q d hP hQ hd j R hj
        refine Tot.bindT (next_tot d hd 2 (by omega) (by omega)) ?_
        rintro ⟨c, d⟩ ⟨c0, c1, hd⟩
        simp only at c0 c1 hd ⊢
        have e : c = 0 ∨ c = 1 := by omega
        rcases e with rfl | rfl
        · exact Tot.bindOf rfl (hj _ ⟨hP, hd⟩)
        · exact Tot.bindOf rfl (hj _ ⟨hQ, hd⟩)
      refine Tot.jnR (fun m : Bool × exchangepointmake_Deck => (m.1 = true → x.fPrefix.fLen < wid x.fPrefix.fAddr.fV6) ∧ DeckOk m.2) (fun j2 hj2 => ?_) (fun m hm => ?_)
      · refine Tot.ite (fun h => ?_) (fun h => hj2 _ ⟨fun e => (by cases e), hd⟩)
        refine Tot.bindT (next_tot d hd 2 (by omega) (by omega)) ?_
        rintro ⟨c, d⟩ ⟨c0, c1, hd⟩
        refine hj2 _ ⟨fun _ => ?_, hd⟩
        unfold HalvesF at h
        rw [if_pos hx] at h
        by_cases e : x.fPrefix.fLen = wid x.fPrefix.fAddr.fV6
        · rw [if_pos e] at h; cases h
        · omega
      · obtain ⟨c, d⟩ := m
        obtain ⟨hc2, hd⟩ := hm
        simp only at hc2 hd ⊢
        refine Tot.ite (fun h => ?_) (fun h => Tot.ite (fun h3 => ?_) (fun h3 => hj _ ⟨hx, hd⟩))
        · have hl := hc2 h
          have e : HalvesF x.fPrefix = (loH x.fPrefix, hiH x.fPrefix, 0) := by unfold HalvesF; rw [if_pos hx, if_neg (by omega)]
          rw [e]
          exact pick _ _ d (loH_V hx hl) (hiH_V hx hl) hd j hj
        · have h3 : 0 < x.fPrefix.fLen := by simpa using h3
          obtain ⟨n, hn⟩ : ∃ n : Nat, x.fPrefix.fLen - 1 = n := ⟨(x.fPrefix.fLen - 1).toNat, by omega⟩
          have hwl := wid_le x.fPrefix.fAddr.fV6
          rw [w64_id (n := x.fPrefix.fLen - 1) (by omega) (by omega), hn]
          refine Tot.bindOf (rmake_eq hx.addr.1 _) ?_
          rw [makeF_ok hx.addr (by omega)]
          have hq := make_V hx.addr (n := n) (by omega)
          have hql : (api_Prefix.mk (mkA x.fPrefix.fAddr.fV6 (cut (nA x.fPrefix.fAddr) (wid x.fPrefix.fAddr.fV6 - n))) n).fLen < wid (api_Prefix.mk (mkA x.fPrefix.fAddr.fV6 (cut (nA x.fPrefix.fAddr) (wid x.fPrefix.fAddr.fV6 - n))) n).fAddr.fV6 := by simp only [mkA_v6]; omega
          generalize api_Prefix.mk (mkA x.fPrefix.fAddr.fV6 (cut (nA x.fPrefix.fAddr) (wid x.fPrefix.fAddr.fV6 - n))) n = q at hq hql
          refine Tot.bindOf (rhalves_eq hq.addr.1) ?_
          have e : HalvesF q = (loH q, hiH q, 0) := by unfold HalvesF; rw [if_pos hq, if_neg (by omega)]
          rw [e]
          exact pick _ _ d (loH_V hq hql) (hiH_V hq hql) hd j hj
    · obtain ⟨q, d⟩ := m
      obtain ⟨hq, hd⟩ := hm
      simp only at hq hd ⊢
      refine Tot.bindT (next_tot d hd 3 (by omega) (by omega)) ?_
      rintro ⟨v, d⟩ ⟨v0, v1, hd⟩
      simp only at hd ⊢
      refine Tot.bindOf (rput_eq v ht.R hq.addr.1 (by omega)) ?_
      have hl := set_len q v t
      refine Tot.jnR (fun m : List api_Entry => TV m ∧ m.length ≤ t.length + 1) (fun j hj => ?_) (fun m hm => ?_)
      · refine Tot.ite (fun h => hj _ ?_) (fun h => hj _ ⟨ht, by omega⟩)
        unfold PutF at h ⊢
        split at h
        · rename_i hv
          rw [if_pos hv]
          split at h
          · cases h
          · rename_i h5
            rw [if_neg h5]
            exact ⟨setL_V hq v ht, hl⟩
        · cases h
      · have hm2 := hm.2
        exact Tot.next ⟨by simp only; rw [w64_id (by omega) (by omega)]; omega, by simp only; rw [w64_id (by omega) (by omega)]; omega, hm.1, hd⟩ (by simp only; rw [w64_id (by omega) (by omega)]; omega)

theorem filter_snoc {α : Type} {l : List α} {k : Nat} (p : α → Bool) (h : k < l.length) : (l.take (k + 1)).filter p = if p l[k] = true then (l.take k).filter p ++ [l[k]] else (l.take k).filter p := by
  rw [take_snoc h, List.filter_append]
  by_cases hp : p l[k] = true <;> simp [hp]
theorem agg2_eq (q : api_Prefix) {e : api_Entry} (h : aR e.fPrefix.fAddr) : table_Aggregate_2 q e = some (!(peq q e.fPrefix) && CoversF q e.fPrefix) := by
  refine Tot.eq ?_
  unfold table_Aggregate_2
  refine Tot.jn (Tot.ite (fun h1 => Tot.bindOf (covers_eq q h) (Tot.some ?_)) (fun h1 => Tot.some ?_))
  · have h1 : (!(peq q e.fPrefix)) = true := h1
    rw [h1]; simp
  · have h1 : (!(peq q e.fPrefix)) = false := h1
    rw [h1]; simp
theorem filt1 {t : List api_Entry} (e : api_Entry) (h : aR e.fPrefix.fAddr) (hl : t.length ≤ 4000000000) : table_filter t e = some (t.filter fun x => (!(peq x.fPrefix e.fPrefix)) && CoversF x.fPrefix e.fPrefix) := by
  refine Tot.eq ?_
  unfold table_filter
  refine Tot.bindRng t.length (fun k b => (((k : Nat) : Int), b)) (fun k b => b = ((t.take k).filter fun x => (!(peq x.fPrefix e.fPrefix)) && CoversF x.fPrefix e.fPrefix)) (fun r => r = (t.filter fun x => (!(peq x.fPrefix e.fPrefix)) && CoversF x.fPrefix e.fPrefix)) [] rfl rfl (fun k b hk hb => ?_) (fun b hb => ?_) (fun x hx => Tot.some hx)
  · unfold table_filter_L0
    have hw : w64 ((k : Int) + 1) = ((k + 1 : Nat) : Int) := by rw [w64_id (by omega) (by omega)]; rfl
    have hlen : b.length ≤ k := by rw [hb]; exact Nat.le_trans (List.length_filter_le ..) (by rw [List.length_take]; omega)
    have hm := List.getElem_mem hk
    refine Tot.iteT (by simpa using hk) (Tot.bindIdx k rfl hk (Tot.bindOf (agg2_eq _ h) (Tot.jn (Tot.ite (fun h => Tot.chk (limB (by simp; omega)) (Tot.step (b ++ [t[k]]) (by rw [hw]) ?_)) (fun h => Tot.step b (by rw [hw]) ?_)))))
    · have h : ((!(peq t[k].fPrefix e.fPrefix)) && CoversF t[k].fPrefix e.fPrefix) = true := h
      rw [filter_snoc _ hk, if_pos h, hb]
    · have h : ((!(peq t[k].fPrefix e.fPrefix)) && CoversF t[k].fPrefix e.fPrefix) = false := h
      rw [filter_snoc _ hk, if_neg (by rw [h]; simp), hb]
  · unfold table_filter_L0
    refine Tot.iteF (by simp) (Tot.last ?_)
    rw [List.take_length] at hb
    exact hb
theorem filt2 {t : List api_Entry} {a : api_Addr} (h : aR a) (hl : t.length ≤ 4000000000) : table_filter_2 t a = some (t.filter fun x => ContF x.fPrefix a) := by
  refine Tot.eq ?_
  unfold table_filter_2
  refine Tot.bindRng t.length (fun k b => (((k : Nat) : Int), b)) (fun k b => b = ((t.take k).filter fun x => ContF x.fPrefix a)) (fun r => r = (t.filter fun x => ContF x.fPrefix a)) [] rfl rfl (fun k b hk hb => ?_) (fun b hb => ?_) (fun x hx => Tot.some hx)
  · unfold table_filter_2_L0
    have hw : w64 ((k : Int) + 1) = ((k + 1 : Nat) : Int) := by rw [w64_id (by omega) (by omega)]; rfl
    have hlen : b.length ≤ k := by rw [hb]; exact Nat.le_trans (List.length_filter_le ..) (by rw [List.length_take]; omega)
    have hm := List.getElem_mem hk
    refine Tot.iteT (by simpa using hk) (Tot.bindIdx k rfl hk (Tot.bindOf (bind_of (cont_eq _ h) rfl : table_Lookup_1 _ _ = _) (Tot.jn (Tot.ite (fun h => Tot.chk (limB (by simp; omega)) (Tot.step (b ++ [t[k]]) (by rw [hw]) ?_)) (fun h => Tot.step b (by rw [hw]) ?_)))))
    · have h : (ContF t[k].fPrefix a) = true := h
      rw [filter_snoc _ hk, if_pos h, hb]
    · have h : (ContF t[k].fPrefix a) = false := h
      rw [filter_snoc _ hk, if_neg (by rw [h]; simp), hb]
  · unfold table_filter_2_L0
    refine Tot.iteF (by simp) (Tot.last ?_)
    rw [List.take_length] at hb
    exact hb
theorem filt3 {t : List api_Entry} {p : api_Prefix} (h : aR p.fAddr) (hl : t.length ≤ 4000000000) : table_filter_3 t p = some (t.filter fun x => CoversF x.fPrefix p) := by
  refine Tot.eq ?_
  unfold table_filter_3
  refine Tot.bindRng t.length (fun k b => (((k : Nat) : Int), b)) (fun k b => b = ((t.take k).filter fun x => CoversF x.fPrefix p)) (fun r => r = (t.filter fun x => CoversF x.fPrefix p)) [] rfl rfl (fun k b hk hb => ?_) (fun b hb => ?_) (fun x hx => Tot.some hx)
  · unfold table_filter_3_L0
    have hw : w64 ((k : Int) + 1) = ((k + 1 : Nat) : Int) := by rw [w64_id (by omega) (by omega)]; rfl
    have hlen : b.length ≤ k := by rw [hb]; exact Nat.le_trans (List.length_filter_le ..) (by rw [List.length_take]; omega)
    have hm := List.getElem_mem hk
    refine Tot.iteT (by simpa using hk) (Tot.bindIdx k rfl hk (Tot.bindOf (bind_of (covers_eq _ h) rfl : table_Covering_1 _ _ = _) (Tot.jn (Tot.ite (fun h => Tot.chk (limB (by simp; omega)) (Tot.step (b ++ [t[k]]) (by rw [hw]) ?_)) (fun h => Tot.step b (by rw [hw]) ?_)))))
    · have h : (CoversF t[k].fPrefix p) = true := h
      rw [filter_snoc _ hk, if_pos h, hb]
    · have h : (CoversF t[k].fPrefix p) = false := h
      rw [filter_snoc _ hk, if_neg (by rw [h]; simp), hb]
  · unfold table_filter_3_L0
    refine Tot.iteF (by simp) (Tot.last ?_)
    rw [List.take_length] at hb
    exact hb
theorem filt4 {t : List api_Entry} (p : api_Prefix) (h : TR t) (hl : t.length ≤ 4000000000) : table_filter_4 t p = some (t.filter fun x => CoversF p x.fPrefix) := by
  refine Tot.eq ?_
  unfold table_filter_4
  refine Tot.bindRng t.length (fun k b => (((k : Nat) : Int), b)) (fun k b => b = ((t.take k).filter fun x => CoversF p x.fPrefix)) (fun r => r = (t.filter fun x => CoversF p x.fPrefix)) [] rfl rfl (fun k b hk hb => ?_) (fun b hb => ?_) (fun x hx => Tot.some hx)
  · unfold table_filter_4_L0
    have hw : w64 ((k : Int) + 1) = ((k + 1 : Nat) : Int) := by rw [w64_id (by omega) (by omega)]; rfl
    have hlen : b.length ≤ k := by rw [hb]; exact Nat.le_trans (List.length_filter_le ..) (by rw [List.length_take]; omega)
    have hm := List.getElem_mem hk
    refine Tot.iteT (by simpa using hk) (Tot.bindIdx k rfl hk (Tot.bindOf (bind_of (covers_eq _ (h _ hm)) rfl : table_Covered_1 _ _ = _) (Tot.jn (Tot.ite (fun h => Tot.chk (limB (by simp; omega)) (Tot.step (b ++ [t[k]]) (by rw [hw]) ?_)) (fun h => Tot.step b (by rw [hw]) ?_)))))
    · have h : (CoversF p t[k].fPrefix) = true := h
      rw [filter_snoc _ hk, if_pos h, hb]
    · have h : (CoversF p t[k].fPrefix) = false := h
      rw [filter_snoc _ hk, if_neg (by rw [h]; simp), hb]
  · unfold table_filter_4_L0
    refine Tot.iteF (by simp) (Tot.last ?_)
    rw [List.take_length] at hb
    exact hb
theorem rcovering_eq {t : List api_Entry} {p : api_Prefix} (h : aV p.fAddr) (hl : t.length ≤ 4000000000) : exchangepointref03_Covering t p = some (t.filter fun x => CoversF x.fPrefix p) := by
  refine Tot.eq ?_
  unfold exchangepointref03_Covering
  refine Tot.bindRng t.length (fun k b => (((k : Nat) : Int), b)) (fun k b => b = ((t.take k).filter fun x => CoversF x.fPrefix p)) (fun r => r = (t.filter fun x => CoversF x.fPrefix p)) [] rfl rfl (fun k b hk hb => ?_) (fun b hb => ?_) (fun x hx => Tot.some hx)
  · unfold exchangepointref03_Covering_L0
    have hw : w64 ((k : Int) + 1) = ((k + 1 : Nat) : Int) := by rw [w64_id (by omega) (by omega)]; rfl
    have hlen : b.length ≤ k := by rw [hb]; exact Nat.le_trans (List.length_filter_le ..) (by rw [List.length_take]; omega)
    have hm := List.getElem_mem hk
    refine Tot.iteT (by simpa using hk) (Tot.bindIdx k rfl hk (Tot.bindOf (rcovers_eq _ h) (Tot.jn (Tot.ite (fun h => Tot.chk (limB (by simp; omega)) (Tot.step (b ++ [t[k]]) (by rw [hw]) ?_)) (fun h => Tot.step b (by rw [hw]) ?_)))))
    · have h : (CoversF t[k].fPrefix p) = true := h
      rw [filter_snoc _ hk, if_pos h, hb]
    · have h : (CoversF t[k].fPrefix p) = false := h
      rw [filter_snoc _ hk, if_neg (by rw [h]; simp), hb]
  · unfold exchangepointref03_Covering_L0
    refine Tot.iteF (by simp) (Tot.last ?_)
    rw [List.take_length] at hb
    exact hb
theorem rcovered_eq {t : List api_Entry} (p : api_Prefix) (h : TV t) (hl : t.length ≤ 4000000000) : exchangepointref03_Covered t p = some (t.filter fun x => CoversF p x.fPrefix) := by
  refine Tot.eq ?_
  unfold exchangepointref03_Covered
  refine Tot.bindRng t.length (fun k b => (((k : Nat) : Int), b)) (fun k b => b = ((t.take k).filter fun x => CoversF p x.fPrefix)) (fun r => r = (t.filter fun x => CoversF p x.fPrefix)) [] rfl rfl (fun k b hk hb => ?_) (fun b hb => ?_) (fun x hx => Tot.some hx)
  · unfold exchangepointref03_Covered_L0
    have hw : w64 ((k : Int) + 1) = ((k + 1 : Nat) : Int) := by rw [w64_id (by omega) (by omega)]; rfl
    have hlen : b.length ≤ k := by rw [hb]; exact Nat.le_trans (List.length_filter_le ..) (by rw [List.length_take]; omega)
    have hm := List.getElem_mem hk
    refine Tot.iteT (by simpa using hk) (Tot.bindIdx k rfl hk (Tot.bindOf (rcovers_eq _ (h.1 _ hm).addr) (Tot.jn (Tot.ite (fun h => Tot.chk (limB (by simp; omega)) (Tot.step (b ++ [t[k]]) (by rw [hw]) ?_)) (fun h => Tot.step b (by rw [hw]) ?_)))))
    · have h : (CoversF p t[k].fPrefix) = true := h
      rw [filter_snoc _ hk, if_pos h, hb]
    · have h : (CoversF p t[k].fPrefix) = false := h
      rw [filter_snoc _ hk, if_neg (by rw [h]; simp), hb]
  · unfold exchangepointref03_Covered_L0
    refine Tot.iteF (by simp) (Tot.last ?_)
    rw [List.take_length] at hb
    exact hb
theorem rwithout_eq {t : List api_Entry} (p : api_Prefix) (hl : t.length ≤ 4000000000) : exchangepointref03_without t p = some (t.filter fun x => !(peq x.fPrefix p)) := by
  refine Tot.eq ?_
  unfold exchangepointref03_without
  refine Tot.bindRng t.length (fun k b => (((k : Nat) : Int), b)) (fun k b => b = ((t.take k).filter fun x => !(peq x.fPrefix p))) (fun r => r = (t.filter fun x => !(peq x.fPrefix p))) [] rfl rfl (fun k b hk hb => ?_) (fun b hb => ?_) (fun x hx => Tot.some hx)
  · unfold exchangepointref03_without_L0
    have hw : w64 ((k : Int) + 1) = ((k + 1 : Nat) : Int) := by rw [w64_id (by omega) (by omega)]; rfl
    have hlen : b.length ≤ k := by rw [hb]; exact Nat.le_trans (List.length_filter_le ..) (by rw [List.length_take]; omega)
    have hm := List.getElem_mem hk
    refine Tot.iteT (by simpa using hk) (Tot.bindIdx k rfl hk (id (Tot.jn (Tot.ite (fun h => Tot.chk (limB (by simp; omega)) (Tot.step (b ++ [t[k]]) (by rw [hw]) ?_)) (fun h => Tot.step b (by rw [hw]) ?_)))))
    · have h : (!(peq t[k].fPrefix p)) = true := h
      rw [filter_snoc _ hk, if_pos h, hb]
    · have h : (!(peq t[k].fPrefix p)) = false := h
      rw [filter_snoc _ hk, if_neg (by rw [h]; simp), hb]
  · unfold exchangepointref03_without_L0
    refine Tot.iteF (by simp) (Tot.last ?_)
    rw [List.take_length] at hb
    exact hb
theorem covering_eq {t : List api_Entry} {p : api_Prefix} (h : aR p.fAddr) (hl : t.length ≤ 4000000000) : table_Covering t p = some (t.filter fun x => CoversF x.fPrefix p) := bind_of (filt3 h hl) rfl
theorem covered_eq {t : List api_Entry} (p : api_Prefix) (h : TR t) (hl : t.length ≤ 4000000000) : table_Covered t p = some (t.filter fun x => CoversF p x.fPrefix) := bind_of (filt4 p h hl) rfl
def eeq (x y : api_Entry) : Bool := (peq x.fPrefix y.fPrefix && ((x.fValue == y.fValue) && true))
theorem eeq_iff {x y : api_Entry} : eeq x y = true ↔ x = y := by
  obtain ⟨a, n⟩ := x
  obtain ⟨b, m⟩ := y
  simp [eeq, peq_iff]
theorem same_self (t : List api_Entry) (hl : t.length ≤ 4611686018427387904) : exchangepointref03_Same t t = some true := by
  refine Tot.eq ?_
  unfold exchangepointref03_Same
  refine Tot.iteF (by simp) (Tot.bindRng t.length (fun k (_ : Unit) => ((k : Nat) : Int)) (fun _ _ => True) (fun x => x = .inr ()) () rfl trivial (fun k b hk _ => ?_) (fun b _ => ?_) (fun x hx => by subst hx; exact Tot.some rfl))
  · unfold exchangepointref03_Same_L0
    have hw : w64 ((k : Int) + 1) = ((k + 1 : Nat) : Int) := by rw [w64_id (by omega) (by omega)]; rfl
    exact Tot.iteT (by simpa using hk) (Tot.bindIdx k rfl hk (Tot.bindIdx k rfl hk (Tot.iteF (by simp) (Tot.step () hw trivial))))
  · unfold exchangepointref03_Same_L0
    exact Tot.iteF (by simp) (Tot.last rfl)

-- the value of a prefix

def tget : List api_Entry → api_Prefix → Option Int
  | [], _ => none
  | x :: t, p => if x.fPrefix = p then some x.fValue else tget t p
theorem rget_eq (t : List api_Entry) (p : api_Prefix) (hl : t.length ≤ 4611686018427387904) : exchangepointref03_Get t p = some ((tget t p).getD 0, (tget t p).isSome) := by
  refine Tot.eq ?_
  unfold exchangepointref03_Get
  refine Tot.bindRng t.length (fun k (_ : Unit) => ((k : Nat) : Int)) (fun k _ => tget (t.drop k) p = tget t p) (fun x => match x with | .inl v => tget t p = some v | .inr _ => tget t p = none) () rfl rfl (fun k b hk hb => ?_) (fun b hb => ?_) (fun x hx => ?_)
  · unfold exchangepointref03_Get_L0
    have hw : w64 ((k : Int) + 1) = ((k + 1 : Nat) : Int) := by rw [w64_id (by omega) (by omega)]; rfl
    rw [List.drop_eq_getElem_cons hk, tget] at hb
    refine Tot.iteT (by simpa using hk) (Tot.bindIdx k rfl hk (Tot.ite (fun h => Tot.stop ?_) (fun h => Tot.step () hw ?_)))
    · have h : peq t[k].fPrefix p = true := h
      rw [if_pos (peq_iff.1 h)] at hb
      exact hb.symm
    · have h : peq t[k].fPrefix p = false := h
      rw [if_neg fun e => by rw [peq_iff.2 e] at h; cases h] at hb
      exact hb
  · unfold exchangepointref03_Get_L0
    refine Tot.iteF (by simp) (Tot.last ?_)
    rw [List.drop_length] at hb
    exact hb.symm
  · cases x with
    | inl v => exact Tot.some (by rw [show tget t p = some v from hx]; rfl)
    | inr u => exact Tot.some (by rw [show tget t p = none from hx]; rfl)
theorem tget_none {p : api_Prefix} : ∀ {t : List api_Entry}, (∀ x ∈ t, x.fPrefix ≠ p) → tget t p = none
  | [], _ => rfl
  | x :: t, h => by rw [tget, if_neg (h x List.mem_cons_self), tget_none fun y hy => h y (List.mem_cons_of_mem _ hy)]
theorem tget_some {p : api_Prefix} {v : Int} : ∀ {t : List api_Entry}, tget t p = some v → api_Entry.mk p v ∈ t
  | [], h => by cases h
  | x :: t, h => by
    rw [tget] at h
    split at h
    · rename_i e
      cases h
      rw [← e]; exact List.mem_cons_self
    · exact List.mem_cons_of_mem _ (tget_some h)
theorem tget_app {p : api_Prefix} : ∀ (a b : List api_Entry), (∀ x ∈ a, x.fPrefix ≠ p) → tget (a ++ b) p = tget b p
  | [], _, _ => rfl
  | x :: a, b, h => by rw [List.cons_append, tget, if_neg (h x List.mem_cons_self), tget_app a b fun y hy => h y (List.mem_cons_of_mem _ hy)]
theorem TV.cons {x : api_Entry} {t : List api_Entry} (h : TV (x :: t)) : pV x.fPrefix ∧ TV t ∧ ∀ y ∈ t, pLt x.fPrefix y.fPrefix :=
  ⟨h.1 x List.mem_cons_self, ⟨fun e he => h.1 e (List.mem_cons_of_mem _ he), (List.pairwise_cons.1 h.2).2⟩, (List.pairwise_cons.1 h.2).1⟩
theorem pLt_ne {p q : api_Prefix} (h : pLt p q) : p ≠ q := fun e => by rw [e] at h; exact pLt_irr q h
theorem tget_iff {p : api_Prefix} {v : Int} : ∀ {t : List api_Entry}, TV t → (tget t p = some v ↔ api_Entry.mk p v ∈ t)
  | [], _ => ⟨fun h => (by cases h), fun h => (by cases h)⟩
  | x :: t, h => by
    obtain ⟨h1, h2, h3⟩ := h.cons
    refine ⟨tget_some, fun hm => ?_⟩
    rw [tget]
    rcases List.mem_cons.1 hm with e | hm
    · rw [← e, if_pos rfl]
    · rw [if_neg (pLt_ne (h3 _ hm)), (tget_iff h2).2 hm]
/-- two tables that say the same of each prefix are one -/
theorem tget_ext {s t : List api_Entry} (hs : TV s) (ht : TV t) (h : ∀ p, tget s p = tget t p) : s = t := by
  have key : ∀ {x : api_Entry}, x ∈ s ↔ x ∈ t := fun {x} => by
    have := h x.fPrefix
    have e : x = api_Entry.mk x.fPrefix x.fValue := rfl
    rw [e, ← tget_iff hs, ← tget_iff ht, this]
  have hsp : s.Pairwise fun a b => pLt a.fPrefix b.fPrefix := hs.2
  exact sorted_unique (r := fun a b : api_Entry => pLt a.fPrefix b.fPrefix) (fun x y a b => pLt_asym a b) hsp ht.2 fun _ => key
theorem tget_set {p : api_Prefix} (hp : pV p) (v : Int) (q : api_Prefix) : ∀ {t : List api_Entry}, TV t → tget (SetL t p v) q = if p = q then some v else tget t q
  | [], _ => by simp [SetL, tget]
  | x :: t, h => by
    obtain ⟨h1, h2, h3⟩ := h.cons
    unfold SetL
    by_cases c1 : pLt x.fPrefix p
    · rw [if_pos c1, tget, tget_set hp v q h2, tget]
      by_cases e : x.fPrefix = q
      · rw [if_pos e, if_neg (fun e2 => pLt_ne c1 (e.trans e2.symm)), if_pos e]
      · rw [if_neg e, if_neg e]
    · rw [if_neg c1]
      by_cases c2 : x.fPrefix = p
      · rw [if_pos c2, tget, tget]
        by_cases e : p = q
        · rw [if_pos e, if_pos e]
        · rw [if_neg e, if_neg e, if_neg (fun e2 => e (c2.symm.trans e2))]
      · rw [if_neg c2, tget]
theorem tget_without (p q : api_Prefix) : ∀ t : List api_Entry, tget (t.filter fun x => !(peq x.fPrefix p)) q = if p = q then none else tget t q
  | [] => by simp [tget]
  | x :: t => by
    have ih := tget_without p q t
    rw [List.filter_cons]
    by_cases c : peq x.fPrefix p = true
    · have e := peq_iff.1 c
      rw [c]
      simp only [Bool.not_true, Bool.false_eq_true, if_false]
      rw [ih, tget, e]
      by_cases e2 : p = q
      · rw [if_pos e2, if_pos e2]
      · rw [if_neg e2, if_neg e2, if_neg e2]
    · have c' : peq x.fPrefix p = false := by simpa using c
      rw [c']
      simp only [Bool.not_false, if_true]
      rw [tget, ih, tget]
      by_cases e2 : p = q
      · rw [if_pos e2, if_pos e2, if_neg (fun e => c (peq_iff.2 (e.trans e2.symm)))]
      · rw [if_neg e2, if_neg e2]
theorem filter_V {t : List api_Entry} (p : api_Entry → Bool) (h : TV t) : TV (t.filter p) := ⟨fun e he => h.1 e (List.mem_filter.1 he).1, h.2.sublist List.filter_sublist⟩

-- the place of a prefix

/-- where a prefix is or would be -/
structure At (t : List api_Entry) (p : api_Prefix) (k : Nat) : Prop where
  le : k ≤ t.length
  lo : ∀ x ∈ t.take k, pLt x.fPrefix p
  hi : ∀ x ∈ t.drop k, ¬ pLt x.fPrefix p
theorem shr1 {n : Nat} (h : n < 9223372036854775808) : w64 (shrI .u64 (IntKind.u64.wrap (w64 (n : Int))) 1) = ((n / 2 : Nat) : Int) := by
  have e1 : (1 : Int) = ((1 : Nat) : Int) := rfl
  rw [w64_id (n := (n : Int)) (by omega) (by omega), u64_nat (by omega), e1, shr_nat n 1 (by decide), w64_id (by omega) (by omega), Nat.pow_one]
theorem mem_take_get {t : List api_Entry} {i : Nat} {x : api_Entry} (h : x ∈ t.take i) : ∃ j, j < i ∧ ∃ hj : j < t.length, t[j] = x := by
  obtain ⟨j, hj, rfl⟩ := List.getElem_of_mem h
  rw [List.length_take] at hj
  exact ⟨j, by omega, by omega, by rw [List.getElem_take]⟩
theorem mem_drop_get {t : List api_Entry} {i : Nat} {x : api_Entry} (h : x ∈ t.drop i) : ∃ j, i ≤ j ∧ ∃ hj : j < t.length, t[j] = x := by
  obtain ⟨j, hj, rfl⟩ := List.getElem_of_mem h
  rw [List.length_drop] at hj
  exact ⟨i + j, by omega, by omega, by rw [List.getElem_drop]⟩
theorem mono_lt {t : List api_Entry} (h : TV t) {p : api_Prefix} (hp : aR p.fAddr) {i j : Nat} (hj : j < t.length) (hij : i ≤ j) (hk : pLt t[j].fPrefix p) : pLt (t[i]'(by omega)).fPrefix p := by
  rcases Nat.lt_or_eq_of_le hij with e | e
  · exact pLt_trans (h.R _ (List.getElem_mem _)) (h.R _ (List.getElem_mem _)) hp (List.pairwise_iff_getElem.1 h.2 i j (by omega) hj e) hk
  · subst e; exact hk
theorem find_tot {t : List api_Entry} (h : TV t) {p : api_Prefix} (hp : aR p.fAddr) (hl : t.length ≤ 1000000000) : Tot (table_find t p) (fun r => ∃ k : Nat, r.1 = k ∧ At t p k ∧ (r.2 = true ↔ ∃ hk : k < t.length, t[k].fPrefix = p)) := by
  unfold table_find
  refine Tot.bindT (P' := fun r : Int × Bool => ∃ k : Nat, r.1 = k ∧ At t p k ∧ (r.2 = true ↔ ∃ hk : k < t.length, t[k].fPrefix = p)) ?_ fun r hr => Tot.some hr
  unfold slices_BinarySearchFunc
  have one : ∀ x : api_Entry, aR x.fPrefix.fAddr → table_find_1 x p = some (cmpP x.fPrefix p) := fun x hx => bind_of (pcmp_eq hx hp) rfl
  refine Tot.bindLoop (fun s : Int × Int => ∃ i j : Nat, s = ((i : Int), (j : Int)) ∧ i ≤ j ∧ j ≤ t.length ∧ (∀ x ∈ t.take i, pLt x.fPrefix p) ∧ ∀ x ∈ t.drop j, ¬ pLt x.fPrefix p) (fun s => (s.2 - s.1).toNat) (fun r : Int => ∃ k : Nat, r = k ∧ At t p k) ⟨0, t.length, rfl, Nat.zero_le _, Nat.le_refl _, by simp, by simp⟩ ?_ ?_
  · rintro s ⟨i, j, rfl, h1, h2, h3, h4⟩
    unfold slices_BinarySearchFunc_L0
    simp only
    refine Tot.ite (fun hc => ?_) (fun hc => Tot.out ⟨i, rfl, by omega, h3, ?_⟩)
    · have hij : i < j := by simpa using hc
      have hh : (i + j) / 2 < t.length := by omega
      have e : ((i : Int) + (j : Int)) = ((i + j : Nat) : Int) := rfl
      rw [e, shr1 (show i + j < 9223372036854775808 by omega)]
      have hR := h.R _ (List.getElem_mem hh)
      refine Tot.bindIdx ((i + j) / 2) rfl hh (Tot.bindOf (one _ hR) (Tot.ite (fun hd => ?_) (fun hd => ?_)))
      · have hd := (cmpP_lt _ _).1 (of_decide_eq_true hd)
        have ew : w64 ((((i + j) / 2 : Nat) : Int) + 1) = (((i + j) / 2 + 1 : Nat) : Int) := by rw [w64_id (by omega) (by omega)]; rfl
        rw [ew]
        refine Tot.next ⟨(i + j) / 2 + 1, j, rfl, by omega, h2, fun x hx => ?_, h4⟩ (by simp only; omega)
        obtain ⟨m, hm1, hm2, rfl⟩ := mem_take_get hx
        exact mono_lt h hp hh (by omega) hd
      · have hd := of_decide_eq_false hd
        refine Tot.next ⟨i, (i + j) / 2, rfl, by omega, by omega, h3, fun x hx hx2 => ?_⟩ (by simp only; omega)
        obtain ⟨m, hm1, hm2, rfl⟩ := mem_drop_get hx
        exact hd ((cmpP_lt _ _).2 (mono_lt h hp hm2 hm1 hx2))
    · have : i = j := by simp at hc; omega
      subst this
      exact h4
  · rintro r ⟨k, rfl, hk⟩
    refine Tot.jnR (fun m : Bool => m = true ↔ ∃ hk : k < t.length, t[k].fPrefix = p) (fun j hj => ?_) (fun m hm => Tot.some ⟨k, rfl, hk, hm⟩)
    refine Tot.ite (fun hc => ?_) (fun hc => hj _ ⟨fun e => (by cases e), fun ⟨hlt, _⟩ => ?_⟩)
    · have hlt : k < t.length := by simpa using hc
      have hR := h.R _ (List.getElem_mem hlt)
      refine Tot.bindIdx k rfl hlt (Tot.bindOf (one _ hR) (hj _ ?_))
      rw [beq_iff_eq, cmpP_zero hR hp]
      exact ⟨fun e => ⟨hlt, e⟩, fun ⟨_, e⟩ => e⟩
    · simp at hc; omega
theorem find2_tot {t : List api_Entry} (h : TV t) {p : api_Prefix} (hp : aR p.fAddr) (hl : t.length ≤ 1000000000) : Tot (table_find_2 t p) (fun r => ∃ k : Nat, r.1 = k ∧ At t p k ∧ (r.2 = true ↔ ∃ hk : k < t.length, t[k].fPrefix = p)) := by
  unfold table_find_2
  refine Tot.bindT (P' := fun r : Int × Bool => ∃ k : Nat, r.1 = k ∧ At t p k ∧ (r.2 = true ↔ ∃ hk : k < t.length, t[k].fPrefix = p)) ?_ fun r hr => Tot.some hr
  unfold slices_BinarySearchFunc_2
  have one : ∀ x : api_Entry, aR x.fPrefix.fAddr → table_find_1 x p = some (cmpP x.fPrefix p) := fun x hx => bind_of (pcmp_eq hx hp) rfl
  refine Tot.bindLoop (fun s : Int × Int => ∃ i j : Nat, s = ((i : Int), (j : Int)) ∧ i ≤ j ∧ j ≤ t.length ∧ (∀ x ∈ t.take i, pLt x.fPrefix p) ∧ ∀ x ∈ t.drop j, ¬ pLt x.fPrefix p) (fun s => (s.2 - s.1).toNat) (fun r : Int => ∃ k : Nat, r = k ∧ At t p k) ⟨0, t.length, rfl, Nat.zero_le _, Nat.le_refl _, by simp, by simp⟩ ?_ ?_
  · rintro s ⟨i, j, rfl, h1, h2, h3, h4⟩
    unfold slices_BinarySearchFunc_2_L0
    simp only
    refine Tot.ite (fun hc => ?_) (fun hc => Tot.out ⟨i, rfl, by omega, h3, ?_⟩)
    · have hij : i < j := by simpa using hc
      have hh : (i + j) / 2 < t.length := by omega
      have e : ((i : Int) + (j : Int)) = ((i + j : Nat) : Int) := rfl
      rw [e, shr1 (show i + j < 9223372036854775808 by omega)]
      have hR := h.R _ (List.getElem_mem hh)
      refine Tot.bindIdx ((i + j) / 2) rfl hh (Tot.bindIdx ((i + j) / 2) rfl hh (Tot.bindOf (one _ hR) (Tot.ite (fun hd => ?_) (fun hd => ?_))))
      · have hd := (cmpP_lt _ _).1 (of_decide_eq_true hd)
        have ew : w64 ((((i + j) / 2 : Nat) : Int) + 1) = (((i + j) / 2 + 1 : Nat) : Int) := by rw [w64_id (by omega) (by omega)]; rfl
        rw [ew]
        refine Tot.next ⟨(i + j) / 2 + 1, j, rfl, by omega, h2, fun x hx => ?_, h4⟩ (by simp only; omega)
        obtain ⟨m, hm1, hm2, rfl⟩ := mem_take_get hx
        exact mono_lt h hp hh (by omega) hd
      · have hd := of_decide_eq_false hd
        refine Tot.next ⟨i, (i + j) / 2, rfl, by omega, by omega, h3, fun x hx hx2 => ?_⟩ (by simp only; omega)
        obtain ⟨m, hm1, hm2, rfl⟩ := mem_drop_get hx
        exact hd ((cmpP_lt _ _).2 (mono_lt h hp hm2 hm1 hx2))
    · have : i = j := by simp at hc; omega
      subst this
      exact h4
  · rintro r ⟨k, rfl, hk⟩
    refine Tot.jnR (fun m : Bool => m = true ↔ ∃ hk : k < t.length, t[k].fPrefix = p) (fun j hj => ?_) (fun m hm => Tot.some ⟨k, rfl, hk, hm⟩)
    refine Tot.ite (fun hc => ?_) (fun hc => hj _ ⟨fun e => (by cases e), fun ⟨hlt, _⟩ => ?_⟩)
    · have hlt : k < t.length := by simpa using hc
      have hR := h.R _ (List.getElem_mem hlt)
      refine Tot.bindIdx k rfl hlt (Tot.bindIdx k rfl hlt (Tot.bindOf (one _ hR) (hj _ ?_)))
      rw [beq_iff_eq, cmpP_zero hR hp]
      exact ⟨fun e => ⟨hlt, e⟩, fun ⟨_, e⟩ => e⟩
    · simp at hc; omega
theorem At.uniq {t : List api_Entry} {p : api_Prefix} {k : Nat} (h : TV t) (hp : aR p.fAddr) (a : At t p k) : tget t p = if hk : k < t.length then (if t[k].fPrefix = p then some t[k].fValue else none) else none := by
  have e : t = t.take k ++ t.drop k := (List.take_append_drop k t).symm
  have e2 : tget t p = tget (t.drop k) p := by
    conv => lhs; rw [e]
    exact tget_app _ _ fun x hx => pLt_ne (a.lo x hx)
  rw [e2]
  by_cases hk : k < t.length
  · rw [dif_pos hk, drop_cons' hk, tget]
    by_cases c : t[k].fPrefix = p
    · rw [if_pos c, if_pos c]
    · rw [if_neg c, if_neg c]
      refine tget_none fun x hx e3 => ?_
      have h1 := a.hi t[k] (by rw [drop_cons' hk]; exact List.mem_cons_self)
      obtain ⟨m, hm1, hm2, rfl⟩ := mem_drop_get hx
      have := List.pairwise_iff_getElem.1 h.2 k m hk hm2 (by omega)
      rw [e3] at this
      exact h1 this
  · rw [dif_neg hk, List.drop_eq_nil_of_le (by omega)]; rfl
theorem get_eq {t : List api_Entry} (h : TV t) {p : api_Prefix} (hp : aR p.fAddr) (hl : t.length ≤ 1000000000) : table_Get t p = some ((tget t p).getD 0, (tget t p).isSome) := by
  refine Tot.eq ?_
  unfold table_Get
  refine Tot.bindT (find_tot h hp hl) ?_
  rintro ⟨r, b⟩ ⟨k, e, ha, hb⟩
  simp only at e hb
  subst e
  rw [ha.uniq h hp]
  refine Tot.ite (fun hc => Tot.some ?_) (fun hc => ?_)
  · have hc : b = false := by simpa using hc
    have hno : ¬ ∃ hk : k < t.length, t[k].fPrefix = p := fun e => by rw [hb.2 e] at hc; cases hc
    by_cases hk : k < t.length
    · rw [dif_pos hk, if_neg fun e => hno ⟨hk, e⟩]; rfl
    · rw [dif_neg hk]; rfl
  · have hc : b = true := by simpa using hc
    obtain ⟨hk, e⟩ := hb.1 hc
    rw [dif_pos hk, if_pos e]
    exact Tot.bindIdx k rfl hk (Tot.some rfl)
theorem At.setL {t : List api_Entry} {p : api_Prefix} {k : Nat} (a : At t p k) (v : Int) : SetL t p v = if hk : k < t.length then (if t[k].fPrefix = p then t.set k (api_Entry.mk p v) else t.take k ++ [api_Entry.mk p v] ++ t.drop k) else t.take k ++ [api_Entry.mk p v] ++ t.drop k := by
  rw [set_split p v k t a.le a.lo]
  by_cases hk : k < t.length
  · rw [dif_pos hk]
    have h1 := a.hi t[k] (by rw [drop_cons' hk]; exact List.mem_cons_self)
    by_cases c : t[k].fPrefix = p
    · rw [if_pos c, drop_cons' hk, SetL, if_neg h1, if_pos c, List.set_eq_take_append_cons_drop, if_pos hk]
    · rw [if_neg c, drop_cons' hk, SetL, if_neg h1, if_neg c]; simp
  · rw [dif_neg hk, List.drop_eq_nil_of_le (by omega)]; simp [SetL]
theorem put_eq {t : List api_Entry} {p : api_Prefix} (v : Int) (hr : TR t) (hp : aR p.fAddr) (hl : t.length ≤ 1000000000) : table_Put t p v = some (PutF t p v) := by
  refine Tot.eq ?_
  unfold table_Put PutF
  refine Tot.jnR (fun m : Bool => m = !(ValidT t && validF p)) (fun j hj => ?_) (fun m hm => ?_)
  · refine Tot.bindOf (tvalid_eq hr (by omega)) (Tot.ite (fun h => hj true ?_) (fun h => Tot.bindOf (pvalid_eq hp) (hj _ ?_)))
    · have h : ValidT t = false := by simpa using h
      rw [h]; rfl
    · have h : ValidT t = true := by simpa using h
      rw [h]; rfl
  · subst hm
    by_cases hv : ValidT t = true ∧ validF p = true
    · rw [if_pos hv]
      obtain ⟨ht, h512⟩ := validT_iff.1 hv.1
      refine Tot.iteF (by rw [hv.1, hv.2]; rfl) (Tot.bindOf (show ext64_slices_Clone_R t = some t from chk_of (limB (by omega)) rfl) ?_)
      refine Tot.bindT (find2_tot ht hp hl) ?_
      rintro ⟨r, b⟩ ⟨k, e, ha, hb⟩
      simp only at e hb ⊢
      subst e
      rw [ha.setL v]
      simp only [Int.toNat_natCast]
      refine Tot.jn (Tot.ite (fun hc => ?_) (fun hc => ?_))
      · obtain ⟨hk, e⟩ := hb.1 hc
        refine Tot.bindIdx k rfl hk (Tot.bindIdx k rfl hk (Tot.some ?_))
        rw [dif_pos hk, if_pos e, List.length_set, if_neg (by omega), e]
      · have hno : ¬ ∃ hk : k < t.length, t[k].fPrefix = p := fun e => by rw [hb.2 e] at hc; cases hc
        have es : (if hk : k < t.length then (if t[k].fPrefix = p then t.set k (api_Entry.mk p v) else t.take k ++ [api_Entry.mk p v] ++ t.drop k) else t.take k ++ [api_Entry.mk p v] ++ t.drop k) = t.take k ++ [api_Entry.mk p v] ++ t.drop k := by
          by_cases hk : k < t.length
          · rw [dif_pos hk, if_neg fun e => hno ⟨hk, e⟩]
          · rw [dif_neg hk]
        rw [es]
        have hlen : (t.take k ++ [api_Entry.mk p v] ++ t.drop k).length = t.length + 1 := by
          have := ha.le
          simp only [List.length_append, List.length_take, List.length_drop, List.length_singleton]; omega
        refine Tot.ite (fun h2 => Tot.some ?_) (fun h2 => Tot.bindOf (show ext65_slices_Insert_R t k [api_Entry.mk p v] = some (t.take k ++ [api_Entry.mk p v] ++ t.drop k) from chk_of ?_ ?_) (Tot.some ?_))
        · rw [if_pos (by rw [hlen]; simp at h2; omega)]
        · have := ha.le
          have hlim : t.length + 1 ≤ LIM := show t.length + 1 ≤ 4294967296 by omega
          simp [this, hlim]
        · rw [Int.toNat_natCast]
        · rw [if_neg (by rw [hlen]; simp at h2; omega)]
    · rw [if_neg hv]
      refine Tot.iteT ?_ (Tot.some rfl)
      cases h1 : ValidT t <;> cases h2 : validF p <;> simp_all

-- removing

noncomputable def RemF (t : List api_Entry) (p : api_Prefix) : List api_Entry × Int :=
  if ValidT t = true ∧ validF p = true then (if (t.filter fun x => !(peq x.fPrefix p)).length = t.length then ([], 7) else (t.filter fun x => !(peq x.fPrefix p), 0)) else ([], 1)
theorem rremove_eq {t : List api_Entry} {p : api_Prefix} (hr : TR t) (hp : aR p.fAddr) (hl : t.length ≤ 1000000000) : exchangepointref03_Remove t p = some (RemF t p) := by
  refine Tot.eq ?_
  unfold exchangepointref03_Remove RemF
  refine Tot.jnR (fun m : Bool => m = !(ValidT t && validF p)) (fun j hj => ?_) (fun m hm => ?_)
  · refine Tot.bindOf (rtvalid_eq hr (by omega)) (Tot.ite (fun h => hj true ?_) (fun h => Tot.bindOf (rvalid_eq hp) (hj _ ?_)))
    · have h : ValidT t = false := by simpa using h
      rw [h]; rfl
    · have h : ValidT t = true := by simpa using h
      rw [h]; rfl
  · subst hm
    by_cases hv : ValidT t = true ∧ validF p = true
    · rw [if_pos hv]
      refine Tot.iteF (by rw [hv.1, hv.2]; rfl) (Tot.bindOf (rwithout_eq p (by omega)) (Tot.ite (fun h => Tot.some ?_) (fun h => Tot.some ?_)))
      · have h := eq_of_beq h
        rw [if_pos (by omega)]
      · have h : ¬ (((t.filter fun x => !(peq x.fPrefix p)).length : Int) = t.length) := fun e => by rw [e] at h; simp at h
        rw [if_neg (by omega)]
    · rw [if_neg hv]
      refine Tot.iteT ?_ (Tot.some rfl)
      cases h1 : ValidT t <;> cases h2 : validF p <;> simp_all
theorem At.without {t : List api_Entry} {p : api_Prefix} {k : Nat} (h : TV t) (hp : aR p.fAddr) (a : At t p k) : (t.filter fun x => !(peq x.fPrefix p)) = if hk : k < t.length then (if t[k].fPrefix = p then t.take k ++ t.drop (k + 1) else t) else t := by
  have hne : ∀ x : api_Entry, x.fPrefix ≠ p → (!(peq x.fPrefix p)) = true := fun x hx => by
    have : peq x.fPrefix p = false := by rw [← Bool.not_eq_true]; exact fun e => hx (peq_iff.1 e)
    rw [this]; rfl
  have e : t = t.take k ++ t.drop k := (List.take_append_drop k t).symm
  have e1 : (t.take k).filter (fun x => !(peq x.fPrefix p)) = t.take k := List.filter_eq_self.2 fun x hx => hne x (pLt_ne (a.lo x hx))
  have e2 : (t.filter fun x => !(peq x.fPrefix p)) = t.take k ++ (t.drop k).filter fun x => !(peq x.fPrefix p) := by
    conv => lhs; rw [e]
    rw [List.filter_append, e1]
  rw [e2]
  by_cases hk : k < t.length
  · rw [dif_pos hk]
    have h1 := a.hi t[k] (by rw [drop_cons' hk]; exact List.mem_cons_self)
    have h3 : ∀ x ∈ t.drop (k + 1), x.fPrefix ≠ p := fun x hx e3 => by
      obtain ⟨m, hm1, hm2, rfl⟩ := mem_drop_get hx
      have := List.pairwise_iff_getElem.1 h.2 k m hk hm2 (by omega)
      rw [e3] at this
      exact h1 this
    have e3 : (t.drop (k + 1)).filter (fun x => !(peq x.fPrefix p)) = t.drop (k + 1) := List.filter_eq_self.2 fun x hx => hne x (h3 x hx)
    rw [drop_cons' hk, List.filter_cons, e3]
    by_cases c : t[k].fPrefix = p
    · rw [if_pos c, if_neg (by rw [peq_iff.2 c]; simp)]
    · rw [if_neg c, if_pos (hne _ c), ← drop_cons' hk, List.take_append_drop]
  · rw [dif_neg hk, List.drop_eq_nil_of_le (by omega)]
    simp [List.take_of_length_le (show t.length ≤ k by omega)]
theorem remove_eq {t : List api_Entry} {p : api_Prefix} (hr : TR t) (hp : aR p.fAddr) (hl : t.length ≤ 1000000000) : table_Remove t p = some (RemF t p) := by
  refine Tot.eq ?_
  unfold table_Remove RemF
  refine Tot.jnR (fun m : Bool => m = !(ValidT t && validF p)) (fun j hj => ?_) (fun m hm => ?_)
  · refine Tot.bindOf (tvalid_eq hr (by omega)) (Tot.ite (fun h => hj true ?_) (fun h => Tot.bindOf (pvalid_eq hp) (hj _ ?_)))
    · have h : ValidT t = false := by simpa using h
      rw [h]; rfl
    · have h : ValidT t = true := by simpa using h
      rw [h]; rfl
  · subst hm
    by_cases hv : ValidT t = true ∧ validF p = true
    · rw [if_pos hv]
      obtain ⟨ht, h512⟩ := validT_iff.1 hv.1
      refine Tot.iteF (by rw [hv.1, hv.2]; rfl) (Tot.bindT (find_tot ht hp hl) ?_)
      rintro ⟨r, b⟩ ⟨k, e, ha, hb⟩
      simp only at e hb ⊢
      subst e
      rw [ha.without ht hp]
      refine Tot.ite (fun hc => Tot.some ?_) (fun hc => ?_)
      · have hc : b = false := by simpa using hc
        have hno : ¬ ∃ hk : k < t.length, t[k].fPrefix = p := fun e => by rw [hb.2 e] at hc; cases hc
        by_cases hk : k < t.length
        · rw [dif_pos hk, if_neg fun e => hno ⟨hk, e⟩, if_pos rfl]
        · rw [dif_neg hk, if_pos rfl]
      · have hc : b = true := by simpa using hc
        obtain ⟨hk, e⟩ := hb.1 hc
        rw [dif_pos hk, if_pos e]
        have hw : w64 ((k : Int) + 1) = ((k + 1 : Nat) : Int) := by rw [w64_id (by omega) (by omega)]; rfl
        rw [hw]
        refine Tot.bindOf (show ext64_slices_Clone_R t = some t from chk_of (limB (by omega)) rfl) (Tot.bindOf (show ext66_slices_Delete t k ((k + 1 : Nat) : Int) = some (t.take k ++ t.drop (k + 1)) from chk_of ?_ ?_) (Tot.some ?_))
        · simp; omega
        · rw [Int.toNat_natCast, Int.toNat_natCast]
        · rw [if_neg (by simp only [List.length_append, List.length_take, List.length_drop]; omega)]
    · rw [if_neg hv]
      refine Tot.iteT ?_ (Tot.some rfl)
      cases h1 : ValidT t <;> cases h2 : validF p <;> simp_all

-- looking up

def zE : api_Entry := api_Entry.mk zP 0
def better : Option api_Entry → api_Entry → Bool
  | none, _ => true
  | some b, x => decide (b.fPrefix.fLen < x.fPrefix.fLen)
def stepB (b : Option api_Entry) (x : api_Entry) : Option api_Entry := if better b x = true then some x else b
def best (l : List api_Entry) : Option api_Entry := l.foldl stepB none
theorem best_snoc (l : List api_Entry) (x : api_Entry) : best (l ++ [x]) = stepB (best l) x := by unfold best; rw [List.foldl_append]; rfl
noncomputable def LookF (t : List api_Entry) (a : api_Addr) : Option api_Entry := best (t.filter fun x => ContF x.fPrefix a)
theorem best_spec : ∀ (l : List api_Entry), (l = [] ∧ best l = none) ∨ ∃ e, best l = some e ∧ e ∈ l ∧ ∀ x ∈ l, x.fPrefix.fLen ≤ e.fPrefix.fLen := by
  refine snoc_ind ?_ ?_
  · exact .inl ⟨rfl, rfl⟩
  · intro l x ih
    right
    rw [best_snoc]
    rcases ih with ⟨rfl, h⟩ | ⟨e, h, he, hm⟩
    · rw [h]
      exact ⟨x, rfl, by simp, fun y hy => by
        have hy : y ∈ [x] := hy
        rw [List.mem_singleton.1 hy]; exact Int.le_refl _⟩
    · rw [h]
      unfold stepB
      by_cases c : e.fPrefix.fLen < x.fPrefix.fLen
      · refine ⟨x, if_pos (decide_eq_true c), List.mem_append_right _ (List.mem_singleton.2 rfl), fun y hy => ?_⟩
        rcases List.mem_append.1 hy with hy | hy
        · have := hm y hy; omega
        · rw [List.mem_singleton.1 hy]; exact Int.le_refl _
      · refine ⟨e, if_neg (fun h => c (of_decide_eq_true h)), List.mem_append_left _ he, fun y hy => ?_⟩
        rcases List.mem_append.1 hy with hy | hy
        · exact hm y hy
        · rw [List.mem_singleton.1 hy]; omega
theorem rlook_eq {t : List api_Entry} {a : api_Addr} (ha : aV a) (hl : t.length ≤ 4611686018427387904) : exchangepointref03_Lookup t a = some ((LookF t a).getD zE, (LookF t a).isSome) := by
  refine Tot.eq ?_
  unfold exchangepointref03_Lookup
  refine Tot.bindRng t.length (fun k (b : Bool × api_Entry) => (b.1, ((k : Nat) : Int), b.2)) (fun k b => b = ((LookF (t.take k) a).isSome, (LookF (t.take k) a).getD zE)) (fun x => x = ((LookF t a).isSome, (LookF t a).getD zE)) (false, zE) rfl rfl (fun k b hk hb => ?_) (fun b hb => ?_) (fun x hx => Tot.some (by rw [hx]))
  · subst hb
    unfold exchangepointref03_Lookup_L0
    have hw : w64 ((k : Int) + 1) = ((k + 1 : Nat) : Int) := by rw [w64_id (by omega) (by omega)]; rfl
    have hstep : LookF (t.take (k + 1)) a = if ContF t[k].fPrefix a = true then stepB (LookF (t.take k) a) t[k] else LookF (t.take k) a := by
      unfold LookF
      rw [filter_snoc _ hk]
      by_cases c : ContF t[k].fPrefix a = true
      · rw [if_pos c, if_pos c, best_snoc]
      · rw [if_neg c, if_neg c]
    refine Tot.iteT (by simpa using hk) (Tot.bindIdx k rfl hk ?_)
    generalize LookF (t.take k) a = L at hstep
    refine Tot.jnR (fun m : Bool => m = (ContF t[k].fPrefix a && better L t[k])) (fun j hj => ?_) (fun m hm => ?_)
    · refine Tot.bindOf (rcont_eq _ ha) (Tot.ite (fun h => hj _ ?_) (fun h => hj _ (by rw [h]; rfl)))
      rw [h]
      cases L <;> simp [better]
    · subst hm
      refine Tot.jn (Tot.ite (fun h => Tot.step _ (by rw [hw]) ?_) (fun h => Tot.step _ (by rw [hw]) ?_))
      · rw [Bool.and_eq_true] at h
        rw [hstep, if_pos h.1]
        unfold stepB
        rw [if_pos h.2]; rfl
      · rw [hstep]
        by_cases c : ContF t[k].fPrefix a = true
        · rw [c, Bool.true_and] at h
          rw [if_pos c]
          unfold stepB
          rw [if_neg (by rw [h]; simp)]
        · rw [if_neg c]
  · unfold exchangepointref03_Lookup_L0
    refine Tot.iteF (by simp) (Tot.last ?_)
    rw [List.take_length] at hb
    exact hb
theorem max_eq {l : List api_Entry} (h0 : 0 < l.length) (hv : ∀ e ∈ l, pV e.fPrefix) (hl : l.length ≤ 4611686018427387904) : ∃ e, best l = some e ∧ slices_MaxFunc l = some e := by
  suffices h : Tot (slices_MaxFunc l) (fun e => best l = some e) by
    obtain ⟨e, h1, h2⟩ := h
    exact ⟨e, h2, h1⟩
  unfold slices_MaxFunc
  refine Tot.iteF (by simp; omega) (Tot.bindIdx 0 rfl h0 ?_)
  have lens : ∀ e ∈ l, 0 ≤ e.fPrefix.fLen ∧ e.fPrefix.fLen ≤ 128 := fun e he => by
    have h1 := (hv e he).len0
    have h2 := (hv e he).len1
    have h3 := wid_le e.fPrefix.fAddr.fV6
    omega
  refine Tot.bindT (P' := fun e => best l = some e) ?_ fun e he => Tot.some he
  refine Tot.loop (fun s : Int × api_Entry => ∃ k : Nat, s.1 = k ∧ 0 < k ∧ k ≤ l.length ∧ best (l.take k) = some s.2 ∧ s.2 ∈ l) (fun s => l.length - s.1.toNat) _ (fun s hs => ?_) ⟨1, rfl, by decide, h0, ?_, List.getElem_mem h0⟩
  · obtain ⟨k, e1, h1, h2, h3, h4⟩ := hs
    obtain ⟨i, m⟩ := s
    simp only at e1 h3 h4
    subst e1
    unfold slices_MaxFunc_L0
    simp only
    refine Tot.ite (fun hc => ?_) (fun hc => Tot.out ?_)
    · have hk : k < l.length := by simpa using hc
      have a1 := lens _ (List.getElem_mem hk)
      have a2 := lens _ h4
      have hw : w64 ((k : Int) + 1) = ((k + 1 : Nat) : Int) := by rw [w64_id (by omega) (by omega)]; rfl
      have hs : best (l.take (k + 1)) = stepB (some m) l[k] := by rw [take_snoc hk, best_snoc, h3]
      refine Tot.bindIdx k rfl hk (Tot.bindOf (show table_Lookup_2 l[k] m = some (l[k].fPrefix.fLen - m.fPrefix.fLen) from by unfold table_Lookup_2; rw [w64_id (by omega) (by omega)]) (Tot.jn (Tot.ite (fun h => ?_) (fun h => ?_))))
      · refine Tot.bindIdx k rfl hk (Tot.next ⟨k + 1, hw, by omega, hk, ?_, List.getElem_mem hk⟩ (by simp only; rw [hw]; omega))
        have h := of_decide_eq_true h
        rw [hs]
        exact if_pos (decide_eq_true (by omega))
      · refine Tot.next ⟨k + 1, hw, by omega, hk, ?_, h4⟩ (by simp only; rw [hw]; omega)
        have h := of_decide_eq_false h
        rw [hs]
        exact if_neg (fun h' => by have := of_decide_eq_true h'; omega)
    · have : k = l.length := by simp at hc; omega
      subst this
      rw [List.take_length] at h3
      exact h3
  · have e : l.take 1 = [l[0]] := by
      rw [show (1 : Nat) = 0 + 1 from rfl, take_snoc h0]; rfl
    rw [e]; rfl
theorem look_eq {t : List api_Entry} (h : TV t) {a : api_Addr} (ha : aR a) (hl : t.length ≤ 1000000000) : table_Lookup t a = some ((LookF t a).getD zE, (LookF t a).isSome) := by
  refine Tot.eq ?_
  unfold table_Lookup LookF
  refine Tot.bindOf (filt2 ha (by omega)) ?_
  have hf := filter_V (fun x => ContF x.fPrefix a) h
  have hfl := List.length_filter_le (fun x : api_Entry => ContF x.fPrefix a) t
  generalize (t.filter fun x => ContF x.fPrefix a) = l at hf hfl
  refine Tot.ite (fun hc => Tot.some ?_) (fun hc => ?_)
  · have hc : l = [] := by simpa using hc
    subst hc; rfl
  · have hpos : 0 < l.length := by
      rcases Nat.eq_zero_or_pos l.length with h0 | h0
      · rw [h0] at hc; cases hc
      · exact h0
    obtain ⟨e, h1, h2⟩ := max_eq hpos hf.1 (by omega)
    rw [h1]
    exact Tot.bindOf h2 (Tot.some rfl)
/-- what is found -/
theorem look_iff {t : List api_Entry} (h : TV t) {a : api_Addr} {e : api_Entry} : LookF t a = some e ↔ e ∈ t ∧ ContF e.fPrefix a = true ∧ ∀ x ∈ t, ContF x.fPrefix a = true → x.fPrefix.fLen ≤ e.fPrefix.fLen := by
  unfold LookF
  have key : ∀ x y : api_Entry, x ∈ t → y ∈ t → ContF x.fPrefix a = true → ContF y.fPrefix a = true → x.fPrefix.fLen = y.fPrefix.fLen → x = y := fun x y hx hy cx cy hl => by
    have vx := h.1 x hx
    have vy := h.1 y hy
    have e1 := covers_eq_len vx vy (nest vx vy cx cy (Int.le_of_eq hl)) hl
    have g1 := (tget_iff (v := x.fValue) (p := x.fPrefix) h).2 hx
    have g2 := (tget_iff (v := y.fValue) (p := y.fPrefix) h).2 hy
    rw [e1, g2] at g1
    obtain ⟨xp, xv⟩ := x
    obtain ⟨yp, yv⟩ := y
    simp only [Option.some.injEq] at g1 e1
    rw [e1, g1]
  rcases best_spec (t.filter fun x => ContF x.fPrefix a) with ⟨h1, h2⟩ | ⟨y, h1, h2, h3⟩
  · rw [h2]
    refine ⟨fun e => (by cases e), fun ⟨h3, h4, _⟩ => ?_⟩
    have : e ∈ (t.filter fun x => ContF x.fPrefix a) := List.mem_filter.2 ⟨h3, h4⟩
    rw [h1] at this; cases this
  · rw [h1]
    obtain ⟨g1, g2⟩ := List.mem_filter.1 h2
    constructor
    · intro e
      have e := Option.some.inj e
      rw [← e]
      exact ⟨g1, g2, fun x hx cx => h3 x (List.mem_filter.2 ⟨hx, cx⟩)⟩
    · rintro ⟨k1, k2, k3⟩
      have l1 := k3 y g1 g2
      have l2 := h3 e (List.mem_filter.2 ⟨k1, k2⟩)
      rw [key y e g1 k1 g2 k2 (by omega)]
theorem look_none {t : List api_Entry} {a : api_Addr} : LookF t a = none ↔ ∀ x ∈ t, ContF x.fPrefix a ≠ true := by
  unfold LookF
  rcases best_spec (t.filter fun x => ContF x.fPrefix a) with ⟨h1, h2⟩ | ⟨y, h1, h2, h3⟩
  · rw [h2]
    refine ⟨fun _ x hx c => ?_, fun _ => rfl⟩
    have : x ∈ (t.filter fun x => ContF x.fPrefix a) := List.mem_filter.2 ⟨hx, c⟩
    rw [h1] at this; cases this
  · rw [h1]
    obtain ⟨g1, g2⟩ := List.mem_filter.1 h2
    exact ⟨fun e => (by cases e), fun h => (h y g1 g2).elim⟩

end Go.Proofs.Ytbkhigkknhlmhaa
