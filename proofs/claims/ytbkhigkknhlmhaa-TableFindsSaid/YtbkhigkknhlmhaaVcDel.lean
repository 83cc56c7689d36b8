/- What slices.Delete asks for: a slice with three places, append onto a part of a row from that row, a part of a row beyond its slice. -/
import Derived.Test.YtbkhigkknhlmhaaVcV
import Derived.Laws.AppendOwn
namespace Go.Vc
open Go
variable {P : Program} {B : Base} {ops : Array Oper}

theorem Mat.shrinkP {E : EL} {O : OL} {n e sz k : Nat} {es es' : List D} (hn : look O n = some (some (.row e sz es))) (hk : k ≤ es.length) (he : es' = es.take k) : Mat B E O E ((n, some (.row e sz es')) :: O) := fun a w σ Z s => by
  subst he
  have s' := s.shrink hn hk
  rw [← look_updO] at s'
  exact ⟨σ, Z, s'⟩

section
variable {d : Nat} {x y : Operand} {ty : TypeId} {pos : String} {af : Array Edge} {nt nt' nt'' : List (Nat × V)}
/-- s[i:j:k], whose value nobody reads -/
theorem OpJ.cut3J {t e : TypeId} {sz : Nat} {ag : Bool} (hu : P.underlying t = some (.slice e)) (ht : TyS P e sz ag) {nm off len : Nat} {obj : Ob} {lo hi mx : Operand} {k1 k2 k3 : IntKind} {i j m : Int}
    (h0 : 0 ≤ i) (h1 : i ≤ j) (h2 : j ≤ m) (h3 : m.toNat ≤ len) (hN : d < B.N) (hx : Opd x (.sref nm sz off len) nt) {n1 n2 n3 : List (Nat × V)} (hlo : Opd lo (.d (.int k1 i)) n1) (hhi : Opd hi (.d (.int k2 j)) n2) (hmx : Opd mx (.d (.int k3 m)) n3) :
    OpJ P B ops ⟨some d, .slice t x (some lo) (some hi) (some mx), ty, pos, af, none⟩ { nt := nt ++ (n1 ++ (n2 ++ n3)), no := [(nm, obj)], wt := [(d, .junk)] } :=
  OpJ.run rfl rfl hN rfl fun env ob a w σ Z sm hne => by
    obtain ⟨g1, g2⟩ := needs_app hne.1
    obtain ⟨g2, g3⟩ := needs_app g2
    obtain ⟨g3, g4⟩ := needs_app g3
    have hlv : live ob nm := ⟨obj, hne.2.1 (nm, obj) (by simp)⟩
    obtain ⟨ad, c, hv, hc1, hc2, hd⟩ := rep_sref (hx B env ob a w σ Z sm g1) hlv
    have e1 := rep_int (hlo B env ob a w σ Z sm g2)
    have e2 := rep_int (hhi B env ob a w σ Z sm g3)
    have e3 := rep_int (hmx B env ob a w σ Z sm g4)
    have hb : ∀ (n : Int) (k : IntKind) (y : Nat) (code : BoundsCode), 0 ≤ n → n.toNat ≤ y → (Instr.sliceBound (.int k n) y code).run P w = .ok n.toNat w := by
      intro n k y code h0 hy
      have : n ≤ (y : Int) := by omega
      simp [Instr.sliceBound, asIntOf, h0, this]
    have hsz := ht.run_size w
    have b3 := hb m k3 c .slice3Acap (by omega) (by omega)
    have b2 := hb j k2 m.toNat .slice3B (by omega) (by omega)
    have b1 := hb i k1 j.toNat .slice3C h0 (by omega)
    have hr : (Instr.sliceAt t (.slice ad len c) (some (.int k1 i)) (some (.int k2 j)) (some (.int k3 m))).run P w = .ok (.slice (if m.toNat = i.toNat then ad else ad.map (·.add (i.toNat * sz))) (j.toNat - i.toNat) (m.toNat - i.toNat)) w := by
      simp [Instr.sliceAt, Instr.slice, run_underlying hu, Instr.sliceBounds, hsz, b1, b2, b3]
    rw [eff_obs0 _ rfl]
    exact ⟨_, w, σ, Z, by simp only [execOp, hv, e1, e2, e3, Sem.run_bind, Option.map_some, hr, Result.andThen_ok]; rfl, sm, RepT.junk _⟩

/-- a part of a row, from a place to another one within the room -/
theorem OpJ.cut2C {t e : TypeId} {sz c nm len l h : Nat} {ag : Bool} {es : List D} {lo hi : Operand} {k k' : IntKind} {n n' : Int} (hu : P.underlying t = some (.slice e)) (ht : TyS P e sz ag) (h0 : 0 < sz) (hc : Cap B nm e sz c) (hn : 0 ≤ n) (hn' : 0 ≤ n') (hl : l = n.toNat) (hh : h = n'.toNat) (hlh : l ≤ h) (hle : h ≤ c) (hN : d < B.N)
    (hx : Opd x (.sref nm sz 0 len) nt) (hlo : Opd lo (.d (.int k n)) nt') (hhi : Opd hi (.d (.int k' n')) nt'') {len' : Nat} (hlen : len' = h - l) :
    OpJ P B ops ⟨some d, .slice t x (some lo) (some hi) none, ty, pos, af, none⟩ { nt := nt ++ (nt' ++ nt''), no := [(nm, .row e sz es)], wt := [(d, .sref nm sz l len')] } :=
  OpJ.run rfl rfl hN rfl fun env ob a w σ Z sm hne => by
    obtain ⟨g1, g2⟩ := needs_app hne.1
    obtain ⟨g2, g3⟩ := needs_app g2
    have hob : ob nm = some (some (.row e sz es)) := hne.2.1 (nm, _) (by simp)
    obtain ⟨b, hσ, hv, hlc, hc63⟩ := sref_cap sm hob h0 hc (hx B env ob a w σ Z sm g1)
    have hr := run_cut (P := P) w t e hu ht (some ⟨b, 0, none⟩) len c hlc (some (a.eval lo)) (some (a.eval hi)) l h (.inr ⟨k, n, by simp [rep_int (hlo B env ob a w σ Z sm g2)], hn, hl⟩) (.inr ⟨k', n', by simp [rep_int (hhi B env ob a w σ Z sm g3)], hn', hh⟩) hlh hle
    have hro := sm.obj nm _ hob
    obtain ⟨cur, cap, xs, hw, hcsz, hl2, _⟩ := Ob.row_cells hro hσ
    have hshape : w.shape? b = some (e, cur.size) := by simp [World.shape?, hw]
    have hcc : cap * sz = c * sz := by
      obtain ⟨b', hp, hs⟩ := hc
      have hbb : b = b' := by
        have := sm.pin nm (some b') hp ⟨_, hob⟩
        rw [hσ] at this; exact Option.some.inj this
      subst hbb
      rw [← sm.shp nm b hp ⟨_, hob⟩, hshape] at hs
      have := congrArg Prod.snd (Option.some.inj hs)
      rw [← hcsz]; exact this
    rw [eff_obs0 _ rfl]
    refine ⟨_, w, σ, Z, by simp only [execOp, hv, Sem.run_bind, Option.map_none, Option.map_some, hr, Result.andThen_ok]; rfl, sm, ?_⟩
    subst hlen
    refine ⟨⟨live.used ⟨_, hob⟩, fun _ => ⟨_, c - l, rfl, by omega, by omega, .inr ⟨b, e, hσ, ?_, ?_, ?_⟩⟩⟩, .inr rfl⟩
    · by_cases hcl : c = l
      · exact .inl (by omega)
      · right; rw [if_neg hcl]; simp [add_at]
    · rw [hshape, hcsz, hcc, show l + (c - l) = c from by omega]
    · intro hl0; subst hl0; by_cases hcl : c = 0 <;> simp [hcl, Addr.add]

theorem run_append_at (w : World) (t ty e : TypeId) {sz : Nat} {ag : Bool} (hu : P.underlying t = some (.slice e)) (ht : TyS P e sz ag) (g sLen sCap : Nat) (cur : Array Value) (hg : w.heap[g]? = some (.cells cur e (0, 0)))
    (yv : Value) (m : Nat) (news : List Value) (hm : (Builtin.lenOf yv).run P w = .ok m w) (hf : (Builtin.firstCells sz m yv).run P w = .ok news.toArray w) (h1 : ∀ u ∈ news, u.oneCell' = true) (hroom : sLen + m ≤ sCap) (hfit : sLen * sz + news.length ≤ cur.size) :
    (Builtin.append_ #[t, t] ty #[.slice (some ⟨g, 0, none⟩) sLen sCap, yv]).run P w = .ok (.slice (some ⟨g, 0, none⟩) (sLen + m) sCap) (w.setRow g (cur.toList.take (sLen * sz) ++ news ++ cur.toList.drop (sLen * sz + news.length)).toArray) := by
  have hst := run_storeCells_at P g (sLen * sz) e news 0 cur w hg (by simpa using hfit) h1
  simp only [Nat.add_zero] at hst
  have hsz := ht.run_size w
  simp [Builtin.append_, run_underlying hu, hsz, hm, hroom, hf, Addr.add_lit, hst]

/-- append onto the head of a row from its own tail, within the row -/
theorem OpJ.appendSelf {t e sz c nm i j m : Nat} {ag : Bool} {es es' : List D} (hu : P.underlying t = some (.slice e)) (ht : TyS P e sz ag) (h0 : 0 < sz) (hc : Cap B nm e sz c) (hle : es.length ≤ c) (hij : i ≤ j) (hjm : j + m ≤ es.length) (hes : es' = es.take i ++ (es.drop j).take m ++ es.drop (i + m)) {len : Nat} (hlen : len = i + m) (hN : d < B.N)
    (hx : Opd x (.sref nm sz 0 i) nt) (hy : Opd y (.sref nm sz j m) nt') :
    OpJ P B ops ⟨some d, .call { callee := .builtin .append, args := #[x, y], argTypes := #[t, t] }, ty, pos, af, none⟩ { nt := nt ++ nt', no := [(nm, .row e sz es)], wt := [(d, .sref nm sz 0 len)], wo := [(nm, some (.row e sz es'))] } :=
  OpJ.run rfl rfl hN rfl fun env ob a w σ Z sm hne => by
    subst hlen
    obtain ⟨g1, g2⟩ := needs_app hne.1
    have hob : ob nm = some (some (.row e sz es)) := hne.2.1 (nm, _) (by simp)
    have hlv : live ob nm := ⟨_, hob⟩
    obtain ⟨b, hσ, hv, hlc, hc63⟩ := sref_cap sm hob h0 hc (hx B env ob a w σ Z sm g1)
    have hro := sm.obj nm _ hob
    obtain ⟨cur, cap, xs, hw, hcsz, hl2, _⟩ := Ob.row_cells hro hσ
    have hyr := hy B env ob a w σ Z sm g2
    have hsz : ∀ q ∈ (es.drop j).take m, q.sz = sz := fun q hq => hro.2.1 q (List.mem_of_mem_drop (List.mem_of_mem_take hq))
    have hylen : ((es.drop j).take m).length = m := by rw [List.length_take, List.length_drop]; omega
    have src : ∃ cs, (Builtin.lenOf (a.eval y)).run P w = .ok m w ∧ (Builtin.firstCells sz m (a.eval y)).run P w = .ok cs.toArray w ∧ D.repL Z w ((es.drop j).take m) cs ∧ cs.length = m * sz ∧ ∀ u ∈ cs, u.oneCell' = true := by
      by_cases hm : m = 0
      · subst hm
        obtain ⟨ad, c', hv', _, _, _⟩ := rep_sref hyr hlv
        refine ⟨[], by rw [hv']; simp [Builtin.lenOf], ?_, by simp [D.repL], by simp, fun u hu => by cases hu⟩
        rw [hv']
        cases ad with
        | none => simp [Builtin.firstCells]
        | some A =>
          have := run_loadCells_list (P := P) w A [] (fun j v h => by simp at h)
          simpa [Builtin.firstCells] using this
      · obtain ⟨sa, sc, cs, hyv, q1, q2, q3, q4⟩ := src_row sm hob hyr (by omega) (Nat.le_refl m) hjm
        have hl := run_loadCells_list (P := P) w sa cs q3
        refine ⟨cs, by rw [hyv]; simp [Builtin.lenOf], ?_, q1, q2, q4⟩
        rw [hyv]
        simp [Builtin.firstCells, ← q2, hl]
    obtain ⟨cs, s1, s2, q1, q2, q4⟩ := src
    have hfit : i * sz + cs.length ≤ cur.size := by
      rw [hcsz, q2, ← Nat.add_mul]
      exact Nat.mul_le_mul_right _ (by omega)
    have hrun := run_append_at (P := P) w t ty e hu ht b i c cur hw (a.eval y) m cs s1 s2 q4 (by omega) hfit
    obtain ⟨cur', hw', _, s'⟩ := sm.splice (k := i) hob hσ q1 hsz (by rw [hylen]; omega) (es' := es') (by rw [hylen]; exact hes)
    have : cur' = cur := by rw [hw] at hw'; cases hw'; rfl
    subst this
    rw [eff_obs1 _ rfl]
    refine ⟨_, _, σ, Z, by simp only [execOp, resolve, invoke, builtin, Sem.run_bind, Sem.run_pure, Result.andThen_ok, List.map_toArray, List.map_cons, List.map_nil, hv, hrun]; rfl, s', ?_⟩
    have hl' : live (updO ob nm (some (.row e sz es'))) nm := ⟨.row e sz es', by simp [updO]⟩
    refine ⟨⟨hl'.used, fun _ => ⟨_, c, rfl, by omega, hc63, .inr ⟨b, e, hσ, .inr (by simp), ?_, fun _ => rfl⟩⟩⟩, .inr rfl⟩
    obtain ⟨b', hp, hs⟩ := hc
    have hbb : b = b' := by
      have := sm.pin nm (some b') hp hlv
      rw [hσ] at this; exact Option.some.inj this
    subst hbb
    rw [Nat.zero_add, ← hs, ← s'.shp nm b hp hl']
end
theorem del_chk {α : Type} {a0 : List α} {a1 a2 : Int} (h : (decide (0 ≤ a1) && decide (a1 < a2) && decide (a2.toNat ≤ a0.length)) = true) : 0 ≤ a1 ∧ a1 < a2 ∧ a2.toNat ≤ a0.length := by
  simp only [Bool.and_eq_true, decide_eq_true_eq] at h
  exact ⟨h.1.1, h.1.2, h.2⟩
theorem del_g1 {xs : List D} {i j n : Nat} (hn : xs.length = n) : xs.take i ++ xs.drop j ++ xs.drop (i + (n - j)) = xs.take i ++ (xs.drop j).take (n - j) ++ xs.drop (i + (n - j)) := by
  rw [List.take_of_length_le (l := xs.drop j) (by rw [List.length_drop, hn]; exact Nat.le_refl _)]
theorem del_len {xs : List D} {i j n : Nat} (hn : xs.length = n) (hij : i ≤ j) (hj : j ≤ n) : (xs.take i ++ xs.drop j ++ xs.drop (i + (n - j))).length = n := by simp; omega
theorem del_g2 {xs : List D} {i j n : Nat} {z : D} (hn : xs.length = n) (hij : i ≤ j) (hj : j ≤ n) : xs.take i ++ xs.drop j ++ List.replicate (j - i) z = (xs.take i ++ xs.drop j ++ xs.drop (i + (n - j))).take (i + (n - j)) ++ List.replicate (j - i) z ++ (xs.take i ++ xs.drop j ++ xs.drop (i + (n - j))).drop (i + (n - j) + (j - i)) := by
  have e1 : (xs.take i ++ xs.drop j).length = i + (n - j) := by simp; omega
  have e3 : (xs.take i ++ xs.drop j ++ xs.drop (i + (n - j))).drop (i + (n - j) + (j - i)) = [] := List.drop_eq_nil_of_le (by rw [del_len hn hij hj]; omega)
  rw [e3, List.take_left' e1, List.append_nil]
theorem del_g3 {xs : List D} {i j n : Nat} {z : D} (hn : xs.length = n) (hij : i ≤ j) (hj : j ≤ n) : xs.take i ++ xs.drop j = (xs.take i ++ xs.drop j ++ List.replicate (j - i) z).take (i + (n - j)) := by
  have e1 : (xs.take i ++ xs.drop j).length = i + (n - j) := by simp; omega
  rw [List.take_left' e1]
theorem del_len3 {xs : List D} {i j n : Nat} {z : D} (hn : xs.length = n) (hij : i ≤ j) (hj : j ≤ n) : i + (n - j) ≤ (xs.take i ++ xs.drop j ++ List.replicate (j - i) z).length := by simp; omega
theorem del_map {α : Type} {f : α → D} {xs : List α} {i j : Nat} : (xs.take i ++ xs.drop j).map f = (xs.map f).take i ++ (xs.map f).drop j := by simp [List.map_take, List.map_drop]
theorem del_len2 {α : Type} {xs : List α} {i j : Nat} (hij : i ≤ j) (hj : j ≤ xs.length) : (xs.take i ++ xs.drop j).length = i + (xs.length - j) := by simp; omega
end Go.Vc
