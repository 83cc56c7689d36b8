/- The capacity of a row that is a parameter; growing by zeros; copy from row to row; rows that do not overlap: what slices.Insert asks for. -/
import Derived.Test.YtbkhigkknhlmhaaVcZ
import Derived.Test.YtbkhigkknhlmhaaVcR
import Derived.Lib.AppendZerosOnto
import Derived.Lib.Overlaps
namespace Go.Vc
open Go
variable {P : Program} {B : Base} {ops : Array Oper}

/-- the room of a row that was there from the start -/
def Cap (B : Base) (nm e sz c : Nat) : Prop := ∃ b, B.pin nm = some (some b) ∧ B.w0.shape? b = some (e, c * sz)

theorem AWp.withCap {Q : Exit → EL → OL → Prop} {E : EL} {O : OL} {code : Code} {nm e sz : Nat} {es : List D} (hO : look O nm = some (some (.row e sz es))) (hne : es ≠ []) (hpin : ∃ p, B.pin nm = some p)
    (h : ∀ c, Cap B nm e sz c → es.length ≤ c → c ≤ 9223372036854775807 → AWp P B code Q E O) : AWp P B code Q E O := fun a w σ Z s => by
  obtain ⟨p, hp⟩ := hpin
  have hl : live (look O) nm := ⟨_, hO⟩
  have hσ := s.pin nm p hp hl
  have hro := s.obj nm _ hO
  obtain ⟨h0, h1, v, xs, ⟨hl', h2⟩, h3, h4, h5⟩ := hro
  cases p with
  | none => exact absurd (h5 hσ) hne
  | some b =>
    rcases h2 with ⟨rfl, _⟩ | ⟨g, cap, cur, rfl, _, hg, hc1, hc2, hs, _⟩
    · rw [hσ] at h4; cases h4
    · have hgb : g = b := by rw [hσ] at h4; exact Option.some.inj h4
      subst hgb
      exact h cap ⟨g, hp, by rw [← s.shp nm g hp hl]; simp [World.shape?, hg, hs]⟩ hc1 (by simpa [maxLen] using hc2) a w σ Z s

section
variable {d : Nat} {x y : Operand} {ty : TypeId} {pos : String} {af : Array Edge} {nt nt' : List (Nat × V)}

/-- the slice of a row whose room is known -/
theorem sref_cap {env : Env} {ob : Obs} {a : Act} {w : World} {σ : Nat → Option Nat} {Z : Nat → Prop} (sm : Sim B env ob a w σ Z) {nm e sz c len : Nat} {o : Ob} (hob : ob nm = some (some o)) (h0 : 0 < sz) (hc : Cap B nm e sz c) {v : Value} (hr : RepT ob σ Z w v (.sref nm sz 0 len)) :
    ∃ b, σ nm = some b ∧ v = .slice (some ⟨b, 0, none⟩) len c ∧ len ≤ c ∧ c ≤ 9223372036854775807 := by
  have hl : live ob nm := ⟨_, hob⟩
  obtain ⟨ad, c', hv, hc1, hc2, hd⟩ := rep_sref hr hl
  obtain ⟨b, hp, hs⟩ := hc
  have hσ := sm.pin nm (some b) hp hl
  have hsh := sm.shp nm b hp hl
  rcases hd with ⟨k1, _⟩ | ⟨b', e', k1, k2, k3, k4⟩
  · rw [hσ] at k1; cases k1
  · have hbb : b = b' := by rw [hσ] at k1; exact Option.some.inj k1
    subst hbb
    rw [hsh, hs] at k3
    have h5 : c * sz = (0 + c') * sz := congrArg Prod.snd (Option.some.inj k3)
    have h6 : c = c' := by rw [Nat.zero_add] at h5; exact Nat.eq_of_mul_eq_mul_right h0 h5
    subst h6
    exact ⟨b, hσ, by rw [hv, k4 rfl], hc1, hc2⟩

theorem OpJ.capC {t e0 nm sz len c e : Nat} {es : List D} (hu : P.underlying t = some (.slice e0)) (h0 : 0 < sz) (hc : Cap B nm e sz c) (hN : d < B.N) (hx : Opd x (.sref nm sz 0 len) nt) :
    OpJ P B ops ⟨some d, .call { callee := .builtin .cap, args := #[x], argTypes := #[t] }, ty, pos, af, none⟩ { nt, no := [(nm, .row e sz es)], wt := [(d, .d (.int .i64 c))] } :=
  OpJ.run rfl rfl hN rfl fun env ob a w σ Z sm hne => by
    obtain ⟨b, _, hv, _⟩ := sref_cap sm (hne.2.1 (nm, .row e sz es) (by simp)) h0 hc (hx B env ob a w σ Z sm hne.1)
    exact ⟨.int .i64 c, w, σ, Z, by simp [execOp, resolve, invoke, builtin, hv, Builtin.cap_, run_underlying hu, goInt], by rw [eff_obs0 _ rfl]; exact sm, mk_int _ _⟩

end

/-- a row is written on beyond its end, within its room -/
theorem Sim.extend {env : Env} {ob : Obs} {a : Act} {w : World} {σ : Nat → Option Nat} {Z : Nat → Prop} (sm : Sim B env ob a w σ Z) {nm e sz k b : Nat} {es ys es' : List D} {news : List Value} {cur : Array Value} (hob : ob nm = some (some (.row e sz es))) (hb : σ nm = some b) (hw : w.heap[b]? = some (.cells cur e (0, 0)))
    (hys : D.repL Z w ys news) (hysz : ∀ y ∈ ys, y.sz = sz) (hk : k ≤ es.length) (hfit : k * sz + news.length ≤ cur.size) (hes : es' = es.take k ++ ys) :
    Sim B env (updO ob nm (some (.row e sz es'))) a (w.setRow b (cur.toList.take (k * sz) ++ news ++ cur.toList.drop (k * sz + news.length)).toArray) σ Z := by
  have hro := sm.obj nm _ hob
  obtain ⟨cur', cap, xs, hw', hcsz, hle, hcap, hr, hxl, htake⟩ := Ob.row_cells hro hb
  have hcc : cur' = cur := by rw [hw] at hw'; cases hw'; rfl
  subst hcc
  have hsz := hro.2.1
  have hpos := hro.1
  have hnl : news.length = ys.length * sz := by rw [D.repL_len _ _ hys, D.szL_all _ hysz]
  have e0 : es = es.take k ++ es.drop k := (List.take_append_drop k es).symm
  rw [e0] at hr
  obtain ⟨c1, c2, q1, r1, _⟩ := repL_parts hr
  have l1 : c1.length = k * sz := by rw [D.repL_len _ _ r1, D.szL_all _ (fun x hx => hsz x (List.mem_of_mem_take hx)), List.length_take, Nat.min_eq_left hk]
  have hnew : D.repL Z w es' (c1 ++ news) := by rw [hes]; exact D.repL_append _ _ _ _ r1 hys
  have hlen' : es'.length = k + ys.length := by rw [hes]; simp only [List.length_append, List.length_take]; omega
  have hcl : cur'.toList.length = cur'.size := Array.length_toList
  have hlen : (cur'.toList.take (k * sz) ++ news ++ cur'.toList.drop (k * sz + news.length)).length = cur'.size := by
    simp only [List.length_append, List.length_take, List.length_drop, hcl]; omega
  have t1 : cur'.toList.take (k * sz) = c1 := by
    have h1 : cur'.toList.take (k * sz) = xs.take (k * sz) := by
      rw [← htake, List.take_take, Nat.min_eq_left (Nat.mul_le_mul_right _ hk)]
    rw [h1, q1, ← l1, List.take_left']
    rfl
  refine sm.setObj hob hb hw (by simpa using hlen) fun ob' m => ?_
  have hxl' : (c1 ++ news).length = es'.length * sz := by
    rw [List.length_append, l1, hnl, hlen', Nat.add_mul]
  have hcapk : es'.length ≤ cap := by
    rw [hlen']
    rw [hcsz, hnl, ← Nat.add_mul] at hfit
    exact Nat.le_of_mul_le_mul_right hfit hpos
  refine ⟨hpos, fun y' hy' => ?_, .slice (some ⟨b, 0, none⟩) es'.length cap, c1 ++ news, ⟨hxl', .inr ⟨b, cap, _, rfl, Nat.zero_le _, setRow_heap w b cur' _ e (0, 0) hw, hcapk, by simpa [maxLen] using hcap, ?_, ?_⟩⟩, ?_, ?_, ?_⟩
  · rw [hes] at hy'
    rcases List.mem_append.1 hy' with hy' | hy'
    · exact hsz y' (List.mem_of_mem_take hy')
    · exact hysz y' hy'
  · rw [← hcsz]; simpa using hlen
  · rw [t1, ← hxl']
    exact List.take_left' rfl
  · exact D.repL_ext m.ext es' _ hnew
  · simp [Value.ownBlock, hb]
  · intro hnone; rw [hb] at hnone; cases hnone

theorem run_copy_at {w : World} {dT sT ty e sz : Nat} {ag : Bool} (hu : P.underlying dT = some (.slice e)) (ht : TyS P e sz ag) {b o dLen dCap sLen sCap : Nat} {sa : Addr} {cs : List Value} {cur : Array Value} (hn : cs.length = Nat.min sLen dLen * sz)
    (hsrc : ∀ j v, cs[j]? = some v → w.cell? (sa.add j) = some v) (hw : w.heap[b]? = some (.cells cur e (0, 0))) (hfit : o + cs.length ≤ cur.size) (h1 : ∀ v ∈ cs, v.oneCell' = true) :
    (Builtin.copy_ #[dT, sT] ty #[.slice (some ⟨b, o, none⟩) dLen dCap, .slice (some sa) sLen sCap]).run P w = .ok (goInt (Nat.min sLen dLen : Nat)) (w.setRow b (cur.toList.take o ++ cs ++ cur.toList.drop (o + cs.length)).toArray) := by
  have hl := run_loadCells_list (P := P) w sa cs hsrc
  have hst := run_storeCells_at P b o e cs 0 cur w hw (by simpa using hfit) h1
  rw [Nat.add_zero] at hst
  simp [Builtin.copy_, Builtin.lenOf, Builtin.firstCells, run_underlying hu, ht.run_size, ← hn, hl, hst]

section
variable {d : Nat} {x y : Operand} {ty : TypeId} {pos : String} {af : Array Edge} {nt nt' : List (Nat × V)}
/-- a part of a row, as the source of a copy -/
theorem src_row {env : Env} {ob : Obs} {a : Act} {w : World} {σ : Nat → Option Nat} {Z : Nat → Prop} (sm : Sim B env ob a w σ Z) {nm e sz so sl k : Nat} {es : List D} (hob : ob nm = some (some (.row e sz es))) {v : Value} (hr : RepT ob σ Z w v (.sref nm sz so sl)) (hk0 : 0 < k) (hks : k ≤ sl) (hk : so + k ≤ es.length) :
    ∃ sa sc cs, v = .slice (some sa) sl sc ∧ D.repL Z w ((es.drop so).take k) cs ∧ cs.length = k * sz ∧ (∀ j u, cs[j]? = some u → w.cell? (sa.add j) = some u) ∧ (∀ u ∈ cs, u.oneCell' = true) := by
  have hl : live ob nm := ⟨_, hob⟩
  obtain ⟨ad, c, hv, hc1, hc2, hd⟩ := rep_sref hr hl
  have hro := sm.obj nm _ hob
  rcases hd with ⟨k1, _, _, k4⟩ | ⟨b, e', k1, k2, _⟩
  · omega
  · rcases k2 with k2 | k2
    · omega
    · have hre := D.repE_take _ b (0 + so * sz) k (D.repE_drop _ b 0 so (row_repE hro k1))
      rw [Nat.zero_add] at hre
      have hsz : ∀ q ∈ (es.drop so).take k, q.sz = sz := fun q hq => hro.2.1 q (List.mem_of_mem_drop (List.mem_of_mem_take hq))
      obtain ⟨cs, g1, g2⟩ := D.repL_of_repE _ b _ hre hsz
      have gl := D.repL_len _ cs g1
      rw [D.szL_all _ hsz, List.length_take, List.length_drop, Nat.min_eq_left (by omega)] at gl
      exact ⟨_, c, cs, by rw [hv, k2], g1, gl, fun j u hj => by rw [add_at]; exact g2 j u hj, D.repL_one _ cs g1⟩

/-- copy into a row, from a part of a row (perhaps the same): the row may become longer -/
theorem OpJ.copyRR {dT sT e sz e2 : Nat} {ag : Bool} (hu : P.underlying dT = some (.slice e)) (ht : TyS P e sz ag) (nm nm2 : Nat) {di dl so sl k : Nat} {es es2 es' : List D} {no : List (Nat × Ob)} (h1 : look no nm = some (.row e sz es)) (h2 : look no nm2 = some (.row e2 sz es2)) (hk0 : 0 < k)
    (hks : Nat.min sl dl = k) (hso : so + k ≤ es2.length) (hdi : di ≤ es.length) (hes : es' = es.take di ++ (es2.drop so).take k ++ es.drop (di + k)) (hN : d < B.N)
    (hx : Opd x (.sref nm sz di dl) nt) (hy : Opd y (.sref nm2 sz so sl) nt') :
    OpJ P B ops ⟨some d, .call { callee := .builtin .copy, args := #[x, y], argTypes := #[dT, sT] }, ty, pos, af, none⟩ { nt := nt ++ nt', no, wt := [(d, .junk)], wo := [(nm, some (.row e sz es'))] } :=
  OpJ.run rfl rfl hN rfl fun env ob a w σ Z sm hne => by
    obtain ⟨g1, g2⟩ := needs_app hne.1
    have hob : ob nm = some (some (.row e sz es)) := hne.2.1 (nm, _) (look_mem h1)
    have hob2 : ob nm2 = some (some (.row e2 sz es2)) := hne.2.1 (nm2, _) (look_mem h2)
    have hmin : k ≤ sl ∧ k ≤ dl := by rw [← hks]; exact ⟨Nat.min_le_left _ _, Nat.min_le_right _ _⟩
    obtain ⟨sa, sc, cs, hyv, q1, q2, q3, q4⟩ := src_row sm hob2 (hy B env ob a w σ Z sm g2) hk0 hmin.1 hso
    have hl : live ob nm := ⟨_, hob⟩
    obtain ⟨ad, c, hv, hc1, hc2, hd⟩ := rep_sref (hx B env ob a w σ Z sm g1) hl
    have hro := sm.obj nm _ hob
    have hysz : ∀ q ∈ (es2.drop so).take k, q.sz = sz := fun q hq => (sm.obj nm2 _ hob2).2.1 q (List.mem_of_mem_drop (List.mem_of_mem_take hq))
    have hylen : ((es2.drop so).take k).length = k := by rw [List.length_take, List.length_drop]; omega
    rcases hd with ⟨_, _, _, k4⟩ | ⟨b, e', k1, k2, k3, _⟩
    · omega
    · have had : ad = some ⟨b, di * sz, none⟩ := by
        rcases k2 with k2 | k2
        · omega
        · exact k2
      obtain ⟨cur, cap, xs, hw, hcsz, hle, _⟩ := Ob.row_cells hro k1
      have hshape : cap * sz = (di + c) * sz := by
        have h3 : w.shape? b = some (e, cur.size) := by simp [World.shape?, hw]
        rw [h3] at k3
        have := congrArg Prod.snd (Option.some.inj k3)
        rw [← hcsz]; exact this
      have hfit : di * sz + cs.length ≤ cur.size := by
        rw [hcsz, hshape, q2, ← Nat.add_mul]
        exact Nat.mul_le_mul_right _ (by omega)
      have hrun := run_copy_at (P := P) (w := w) (dT := dT) (sT := sT) (ty := ty) hu ht (b := b) (o := di * sz) (dLen := dl) (dCap := c) (sLen := sl) (sCap := sc) (sa := sa) (cs := cs) (cur := cur) (by rw [hks, q2]) q3 hw hfit q4
      have s2 : Sim B env (updO ob nm (some (.row e sz es'))) a (w.setRow b (cur.toList.take (di * sz) ++ cs ++ cur.toList.drop (di * sz + cs.length)).toArray) σ Z := by
        rcases Nat.le_total (di + k) es.length with hkk | hkk
        · obtain ⟨cur', hw', _, s'⟩ := sm.splice (k := di) hob k1 q1 hysz (by rw [hylen]; exact hkk) (es' := es') (by rw [hylen]; exact hes)
          have : cur' = cur := by rw [hw] at hw'; cases hw'; rfl
          subst this
          exact s'
        · exact sm.extend (k := di) hob k1 hw q1 hysz hdi hfit (by rw [hes, List.drop_eq_nil_of_le hkk, List.append_nil])
      rw [eff_obs1 _ rfl]
      exact ⟨_, _, σ, Z, by simp only [execOp, resolve, invoke, builtin, Sem.run_bind, Sem.run_pure, Result.andThen_ok, List.map_toArray, List.map_cons, List.map_nil, hv, hyv, had, hrun]; rfl, s2, RepT.junk _⟩

/-- growing beyond the room, by zeros: a new row; the old one stays -/
theorem OpJ.growZ {t tn e sz bytes c i nm nm2 : Nat} {k : Int} {z : D} {es es' : List D} (hB : B.ok) (hu : P.underlying t = some (.slice e)) (hun : P.underlying tn = some (.int .i64)) (he : TyE P e sz bytes) (hz : TyZ P e (.d z)) (hzs : z.sz = sz) (hnm2 : 1000 ≤ nm2) (hc : Cap B nm e sz c)
    (hi : i ≤ es.length) (hk : 0 < k) (hg : c < i + k.toNat) (hlim : i + k.toNat ≤ 4294967296) (hb : (i + k.toNat) * bytes ≤ 140737488355328) {len : Nat} (hlen : len = i + k.toNat) (hes : es' = es.take i ++ List.replicate k.toNat z) (hN : d < B.N)
    (hx : Opd x (.sref nm sz 0 i) nt) (hy : Opd y (.d (.int .i64 k)) nt') :
    OpJ P B ops ⟨some d, .call { callee := .builtin .append, args := #[x, y], argTypes := #[t, tn] }, ty, pos, af, none⟩ { nt := nt ++ nt', no := [(nm, .row e sz es)], nf := [nm2], wt := [(d, .sref nm2 sz 0 len)], wo := [(nm2, some (.row e sz es'))] } :=
  OpJ.run rfl rfl hN rfl fun env ob a w σ Z sm hne => by
    obtain ⟨g1, g2⟩ := needs_app hne.1
    have hob : ob nm = some (some (.row e sz es)) := hne.2.1 (nm, _) (by simp)
    have hfr : ob nm2 = none := hne.2.2 nm2 (by simp)
    have hyv := rep_int (hy B env ob a w σ Z sm g2)
    obtain ⟨b, hσ, hv, hic, hc63⟩ := sref_cap sm hob he.pos hc (hx B env ob a w σ Z sm g1)
    have hro := sm.obj nm _ hob
    obtain ⟨cur, cap, xs, hw, hcsz, hle, hcap, hr, hxl, htake⟩ := Ob.row_cells hro hσ
    have e0 : es = es.take i ++ es.drop i := (List.take_append_drop i es).symm
    rw [e0] at hr
    obtain ⟨c1, c2, q1, r1, _⟩ := repL_parts hr
    have l1 : c1.length = i * sz := by rw [D.repL_len _ _ r1, D.szL_all _ (fun x hx => hro.2.1 x (List.mem_of_mem_take hx)), List.length_take, Nat.min_eq_left hi]
    obtain ⟨ti, zv, hinf, hz', hs, hby, hzs'⟩ := he.get
    have hcell : ∀ j u, c1[j]? = some u → w.drew.cell? ((⟨b, 0, none⟩ : Addr).add j) = some u := fun j u hj => by
      have h1 : xs[j]? = some u := by
        rw [q1, List.getElem?_append_left (List.getElem?_eq_some_iff.1 hj).1]; exact hj
      rw [add_at, Nat.zero_add, cell_of_row w.drew b j cur e (0, 0) hw]
      rw [← htake] at h1
      have := (List.getElem?_eq_some_iff.1 h1).1
      rw [List.getElem?_take_of_lt (by rw [List.length_take] at this; omega)] at h1
      simpa using h1
    have hold : (Builtin.firstCells ti.size i (.slice (some ⟨b, 0, none⟩) i c)).run P w.drew = .ok c1.toArray w.drew := by
      have := run_loadCells_list (P := P) w.drew ⟨b, 0, none⟩ c1 hcell
      rw [l1] at this
      simp only [Builtin.firstCells, hs, this]
    have hkn : ((k.toNat : Nat) : Int) = k := Int.toNat_of_nonneg (by omega)
    have hfit : Builtin.nextslicecap (i + k.toNat) c * ti.bytes ≤ 281474976710656 := by rw [hby]; exact growslice_fits hg hb
    have hkb : k.toNat * ti.bytes ≤ 281474976710656 := by
      rw [hby]
      have : k.toNat * bytes ≤ (i + k.toNat) * bytes := Nat.mul_le_mul_right _ (by omega)
      omega
    have hrun := Lib.run_append_grow_zeros w t tn ty e ti zv .i64 .i64 hu hun hinf hz' (some ⟨b, 0, none⟩) i c c1 hold k.toNat (by omega) (by rw [hs]; exact he.pos) hg (by omega) hkb hfit
    rw [hkn] at hrun
    have hzc : zv.cells.toList = z.enc := by
      have h3 := hz.run w
      simp only [zeroValue, typeInfo, Sem.run_bind] at h3
      have h4 := hz.cells
      simp [hinf, hz'] at h3
      rw [h3]; exact h4
    have hzl : z.enc.length = sz := by
      have := D.rep_len (Z := Z) (w := w) z _ (D.rep_enc z hz.plain)
      rw [this, hzs]
    have hcells : zv.cells = z.enc.toArray := by rw [← hzc]
    have hpos := he.pos
    have hzero : ∀ n, (Builtin.zeroCells zv.cells n).toList = (List.replicate n z.enc).flatten := fun n => by
      have := rangeMap_flatten z.enc (by omega) n
      rw [← this, hcells]
      simp [Builtin.zeroCells]
    have hfl : ∀ n, ((List.replicate n z.enc).flatten).length = n * sz := fun n => by
      have := D.repL_len _ _ (repL_replicate (Z := Z) (w := w) hz.plain n)
      rw [D.szL_all (sz := sz) _ (fun q hq => by rw [List.eq_of_mem_replicate hq, hzs]), List.length_replicate] at this
      exact this
    have hgc := grownCap_ge w (i + k.toNat) c e
    have hgm := grownCap_le_maxLen w (i + k.toNat) c e (by simp only [maxLen]; omega)
    have hel : es'.length = i + k.toNat := by rw [hes, List.length_append, List.length_take, List.length_replicate, Nat.min_eq_left hi]
    have hL : D.repL Z w es' (c1 ++ (List.replicate k.toNat z.enc).flatten) := by
      rw [hes]; exact D.repL_append _ _ _ _ r1 (repL_replicate hz.plain _)
    have hcl : (c1 ++ (List.replicate k.toNat z.enc).flatten).length = es'.length * sz := by rw [List.length_append, l1, hfl, hel, Nat.add_mul]
    let C : Array Value := c1.toArray ++ Builtin.zeroCells zv.cells k.toNat ++ Builtin.zeroCells zv.cells (grownCap w (i + k.toNat) c e - (i + k.toNat))
    have hC : C.toList = (c1 ++ (List.replicate k.toNat z.enc).flatten) ++ (List.replicate (grownCap w (i + k.toNat) c e - (i + k.toNat)) z.enc).flatten := by
      simp only [C, Array.toList_append, hzero]
    have hown : (w.drew.alloc (.cells C e)).ownsRow 0 e sz (.slice (some ⟨w.heap.size, 0, none⟩) (i + k.toNat) (grownCap w (i + k.toNat) c e)) es'.length (c1 ++ (List.replicate k.toNat z.enc).flatten) := by
      refine ⟨hcl, .inr ⟨w.heap.size, _, C, by rw [hel], Nat.zero_le _, heap_alloc_new w.drew _, by rw [hel]; exact hgc, hgm, ?_, ?_⟩⟩
      · rw [← Array.length_toList, hC, List.length_append, hcl, hfl, hel, ← Nat.add_mul]
        congr 1; omega
      · rw [hC, ← hcl, List.take_left']
        rfl
    have s2 := sm.drew.newObj hB hfr hnm2 (o := .row e sz es') (c := .cells C e) fun ob' σ' m hσ' =>
      ⟨he.pos, fun q hq => by
        rw [hes] at hq
        rcases List.mem_append.1 hq with hq | hq
        · exact hro.2.1 q (List.mem_of_mem_take hq)
        · rw [List.eq_of_mem_replicate hq, hzs], _, _, hown, D.repL_ext m.ext _ _ (D.repL_ext (Z := Z) (Z' := Z) (w := w) (w' := w.drew) ⟨fun _ h => h, fun _ _ => rfl⟩ _ _ hL), by rw [hσ']; rfl, fun hn => by rw [hσ'] at hn; cases hn⟩
    rw [eff_obs1 _ rfl]
    refine ⟨.slice (some ⟨w.heap.size, 0, none⟩) (i + k.toNat) (grownCap w (i + k.toNat) c e), w.drew.alloc (.cells C e), updS σ nm2 (some w.heap.size), Z, ?_, s2, ?_⟩
    · simp only [execOp, resolve, invoke, builtin, Sem.run_bind, Sem.run_pure, Result.andThen_ok, List.map_toArray, List.map_cons, List.map_nil, hv, hyv, hrun]; rfl
    · have := sref_of_own (ob := updO ob nm2 (some (.row e sz es'))) (σ := updS σ nm2 (some w.heap.size)) (Z := Z) (nm := nm2) (by rw [live_upd]; simp) hown (by simp [updS, Value.ownBlock])
      rw [hlen]
      simpa [hel] using this

/-- two rows do not overlap -/
theorem OpJ.apartC {f : FuncId} {fn : Func} {t tR e sz nm nm2 off l1 l2 e1 e2 : Nat} {es es2 : List D} {ts : Array TypeId} (hf : P.funcs[f]? = some fn) (hname : (fn.name == "runtime.NumGoroutine") = false) (hb : fn.body.isNone = true) (hn : Extern.findNext fn = none)
    (he : Extern.find fn = some (Extern.SlicesOverlaps.overlaps #[t, t] #[tR])) (hu : P.underlying t = some (.slice e)) {ag : Bool} (ht : TyS P e sz ag) (hne : nm ≠ nm2) (h1 : 0 < l1) (h2 : 0 < l2) (h0 : 0 < sz) (hN : d < B.N)
    (hx : Opd x (.sref nm sz 0 l1) nt) (hy : Opd y (.sref nm2 sz off l2) nt') :
    OpJ P B ops ⟨some d, .call { callee := .value (.func f), args := #[x, y], argTypes := ts }, ty, pos, af, none⟩ { nt := nt ++ nt', no := [(nm, .row e1 sz es), (nm2, .row e2 sz es2)], wt := [(d, .d (.bool false))] } :=
  OpJ.run rfl rfl hN rfl fun env ob a w σ Z sm hne' => by
    obtain ⟨g1, g2⟩ := needs_app hne'.1
    have hob : ob nm = some (some (.row e1 sz es)) := hne'.2.1 (nm, _) (by simp)
    have hob2 : ob nm2 = some (some (.row e2 sz es2)) := hne'.2.1 (nm2, _) (by simp)
    obtain ⟨ad, c, hv, hc1, hc2, hd⟩ := rep_sref (hx B env ob a w σ Z sm g1) ⟨_, hob⟩
    obtain ⟨ad2, c2, hv2, hc21, hc22, hd2⟩ := rep_sref (hy B env ob a w σ Z sm g2) ⟨_, hob2⟩
    rcases hd with ⟨_, _, _, k4⟩ | ⟨b, e', k1, k2, k3, _⟩
    · omega
    rcases hd2 with ⟨_, _, _, k4⟩ | ⟨b2, e2', m1, m2, m3, _⟩
    · omega
    have ha : ad = some ⟨b, 0 * sz, none⟩ := by rcases k2 with k2 | k2; · omega
                                                · exact k2
    have ha2 : ad2 = some ⟨b2, off * sz, none⟩ := by rcases m2 with m2 | m2; · omega
                                                     · exact m2
    have hbb : b ≠ b2 := fun h => hne (sm.inj nm nm2 b ⟨_, hob⟩ ⟨_, hob2⟩ k1 (by rw [m1, h]))
    obtain ⟨cur, cap, xs, hw, hcsz, hle, _⟩ := Ob.row_cells (sm.obj nm _ hob) k1
    have hk : (off + c2) * sz ≠ 0 := by
      have : 0 < (off + c2) * sz := Nat.mul_pos (by omega) h0
      omega
    have hr := Lib.run_overlaps_apart w t tR e hu sz ht.run_size ⟨b, 0 * sz, none⟩ ⟨b2, off * sz, none⟩ l1 c l2 c2 hbb e' e2' _ _ k3 m3 hk (by simp [World.frozen?, hw]) (by simp [World.frozen?, hw])
    refine ⟨.bool false, w, σ, Z, ?_, by rw [eff_obs0 _ rfl]; exact sm, mk_bool _⟩
    simp only [execOp, resolve, show a.eval (.func f) = .func (.func f) #[] #[] from rfl, Deferred.ofValue, Sem.run_bind, Sem.run_pure, Result.andThen_ok, invoke, List.map_toArray, List.map_cons, List.map_nil, Array.empty_append, Array.append_empty, hv, hv2, ha, ha2]
    rw [run_callFunc_extern hf hname hb hn he, hr]
    rfl

/-- a row's slice, made longer within its room -/
theorem OpJ.cutC {t e : TypeId} {sz c nm len h : Nat} {ag : Bool} {es : List D} {o : Operand} {k : IntKind} {n : Int} (hu : P.underlying t = some (.slice e)) (ht : TyS P e sz ag) (h0 : 0 < sz) (hc : Cap B nm e sz c) (hn : 0 ≤ n) (hh : h = n.toNat) (hle : h ≤ c) (hN : d < B.N) (hx : Opd x (.sref nm sz 0 len) nt) (ho : Opd o (.d (.int k n)) nt') :
    OpJ P B ops ⟨some d, .slice t x none (some o) none, ty, pos, af, none⟩ { nt := nt ++ nt', no := [(nm, .row e sz es)], wt := [(d, .sref nm sz 0 h)] } :=
  OpJ.run rfl rfl hN rfl fun env ob a w σ Z sm hne => by
    obtain ⟨g1, g2⟩ := needs_app hne.1
    have hob : ob nm = some (some (.row e sz es)) := hne.2.1 (nm, _) (by simp)
    obtain ⟨b, hσ, hv, hlc, hc63⟩ := sref_cap sm hob h0 hc (hx B env ob a w σ Z sm g1)
    have hr := run_cut (P := P) w t e hu ht (some ⟨b, 0, none⟩) len c hlc none (some (a.eval o)) 0 h (.inl ⟨rfl, rfl⟩) (.inr ⟨k, n, by simp [rep_int (ho B env ob a w σ Z sm g2)], hn, hh⟩) (Nat.zero_le _) hle
    have hro := sm.obj nm _ hob
    obtain ⟨cur, cap, xs, hw, hcsz, hl2, _⟩ := Ob.row_cells hro hσ
    have hshape : w.shape? b = some (e, cur.size) := by simp [World.shape?, hw]
    have hcc : cap * sz = c * sz := by
      obtain ⟨b', hp, hs⟩ := hc
      have hbb : b = b' := by
        have := sm.pin nm (some b') hp ⟨_, hob⟩
        rw [hσ] at this; exact Option.some.inj this
      subst hbb
      rw [← sm.shp nm b hp ⟨_, hob⟩, hshape] at hs
      have := congrArg Prod.snd (Option.some.inj hs)
      rw [← hcsz]; exact this
    rw [eff_obs0 _ rfl]
    refine ⟨_, w, σ, Z, by simp only [execOp, hv, Sem.run_bind, Option.map_none, Option.map_some, hr, Result.andThen_ok]; rfl, sm, ?_⟩
    refine ⟨⟨live.used ⟨_, hob⟩, fun _ => ⟨_, c, rfl, by omega, hc63, .inr ⟨b, e, hσ, ?_, ?_, ?_⟩⟩⟩, .inr rfl⟩
    · by_cases hcl : c = 0
      · exact .inl hcl
      · right; simp [hcl, Addr.add]
    · rw [hshape, hcsz, hcc, Nat.zero_add]
    · intro _; by_cases hcl : c = 0 <;> simp [hcl, Addr.add]
end

/-- as AC.of_code2: the rows that were there from the start stay where they are -/
theorem AC.of_code3 {f : FuncId} {fn : Func} {c : Code} {args : List V} {pobs : List (Nat × Ob)} {res : V} {robs : OL} (hf : P.funcs[f]? = some fn) (hb : fn.body = some c) (hnt : args.all noTupB = true)
    (hle : args.length ≤ fn.ntmps)
    (h : ∀ B : Base, B.ok → B.N = fn.ntmps → (∀ n, n < 1000 → (look pobs n).isSome = true → ∃ p, B.pin n = some p) → AWp P B c (Fin2 P B fn.results.toList res robs) (argE 0 args) (pobs.map fun p => (p.1, some p.2))) : AC P f args pobs res robs := by
  intro w σ Z cargs pre
  have hlen := pre.args.length
  let B : Base := { w0 := w, own := fun k => ∃ m, live (obOf pobs) m ∧ σ m = some k, pin := fun n => if n < 1000 ∧ (look pobs n).isSome then some (σ n) else none, z0 := Z, N := fn.ntmps }
  have hB : B.ok := by
    intro n b hn
    by_cases h : n < 1000 ∧ (look pobs n).isSome = true
    · exact h.1
    · simp [B, h] at hn
  have hN : cargs.toArray.size + (fn.ntmps - cargs.toArray.size) = fn.ntmps := by simp; omega
  have hsim : Sim B (look (argE 0 args)) (look (pobs.map fun p => (p.1, some p.2))) { tmps := cargs.toArray ++ Array.replicate (fn.ntmps - cargs.toArray.size) undef, defers := [] } w σ Z := by
    rw [look_map_some]
    refine ⟨rfl, by simp [B]; omega, ?_, pre.obj, pre.inj, ?_, pre.zlt, ?_, fun _ _ _ _ => rfl, rfl, rfl, rfl, Nat.le_refl _, fun _ h => h, fun _ h => .inl h, fun _ _ _ => rfl⟩
    · intro k x hk
      rw [look_argE] at hk
      simp only [Nat.zero_le, if_true, Nat.sub_zero] at hk
      obtain ⟨v, h1, h2⟩ := pre.args.get k x hk
      have hlt : k < cargs.length := (List.getElem?_eq_some_iff.1 h1).1
      refine ⟨v, ?_, RepT.of h2 ?_⟩
      · rw [Array.getElem?_append_left (by simpa using hlt)]; simpa using h1
      · have := List.all_eq_true.1 hnt x (List.mem_of_getElem? hk)
        simpa [noTupB] using this
    · exact fun n b hl hb => ⟨pre.blk n b hl hb, .inr ⟨n, hl, hb⟩⟩
    · intro n b hn _
      by_cases h : n < 1000 ∧ (look pobs n).isSome = true
      · simpa [B, h] using hn
      · simp [B, h] at hn
  refine calls_of_wp hf hb ?_
  refine wp_mono (h B hB rfl (fun n h1 h2 => ⟨σ n, by simp [B, h1, h2]⟩) _ w σ Z hsim) fun e a' w' ⟨E', O0, σ1, Z1, ⟨he, E1, O1, hmat, vs, hres, hr, hp1, hp2, hp3⟩, s1⟩ => ?_
  obtain ⟨σ2, Z', s2⟩ := hmat a' w' σ1 Z1 s1
  have s' := s2.pat hB (E' := []) (O' := robs) [] hp1 rfl hp2
  have hO' := map_eq_mem hp2
  obtain ⟨cs, g2', g3⟩ := hres.run s2
  have rid : ∀ n, rnm [] n = n := fun n => rfl
  have idren : ∀ x : V, x.ren (rnm []) = x := V.ren_id rid
  have idrenL : ∀ xs : List V, V.renL (rnm []) xs = xs := V.renL_id rid
  have g2 : RepVs (look robs) (fun n => σ2 (rnm [] n)) Z' w' cs vs := by
    refine RepVs.unren (r := rnm []) (ob := look O1) (σ := σ2) ⟨fun n hn => ?_, fun n hn hl => ?_⟩ (by rw [idrenL]; exact g2')
    · have := List.all_eq_true.1 hp3 n hn
      exact look_of_mem (memB_spec this)
    · obtain ⟨o, ho⟩ := hl
      have := hO' (n, some o) (look_mem ho)
      exact ⟨⟨_, by simpa using this⟩, rfl⟩
  let σ' : Nat → Option Nat := fun n => σ2 (rnm [] n)
  have hrun : (results fn a'.tmps).run P w' = .ok (if h : cs.toArray.size = 1 then cs.toArray[0] else .tuple cs.toArray) w' := by
    rw [results_eq, Sem.run_bind, Array.mapM_eq_mapM_toList]
    have : (List.toArray <$> fn.results.toList.mapM (resOne a'.tmps) : Sem (Array Value)).run P w' = .ok cs.toArray w' := by
      rw [map_eq_pure_bind, Sem.run_bind, g3, Result.andThen_ok]; rfl
    rw [this]
    rfl
  have hrep : RepT (look robs) σ' Z' w' (if h : cs.toArray.size = 1 then cs.toArray[0] else .tuple cs.toArray) res := by
    subst hr
    match vs, cs, g2 with
    | [v], [c], g2 =>
      simp only [resV, List.size_toArray, List.length_cons, List.length_nil, Nat.zero_add, dite_true]
      refine RepT.of g2.1 ?_
      have := g2.1
      cases v <;> first | rfl | simp [RepV, V.isAgg, V.rep] at this
    | [], [], _ => exact ⟨[], rfl, trivial⟩
    | v :: v' :: vs, c :: c' :: cs, g2 => exact ⟨_, by simp, g2⟩
  have hpin : ∀ n, n < 1000 → live (obOf pobs) n → B.pin n = some (σ n) := fun n hn hl => by
    obtain ⟨o, ho⟩ := hl
    have : (look pobs n).isSome = true := by
      simp only [obOf, Option.map_eq_some_iff] at ho
      obtain ⟨o', h1, _⟩ := ho
      simp [h1]
    simp [B, hn, this]
  have hpost : Post (obOf pobs) w σ Z res robs _ w' σ' Z' := ⟨hrep, s'.obj, s'.inj, fun n hn hl hl' => s'.pin n _ (hpin n hn hl) hl', fun n b hn hl hl' hb => s'.shp n b (by rw [← hb]; exact hpin n hn hl) hl',
    s'.blk, s'.zlt, s'.zsub, s'.znew, s'.os, s'.tape, s'.output, s'.size, s'.block⟩
  rcases he with rfl | rfl
  · exact bodyPost_ret hrun s'.dfr ⟨_, σ', Z', rfl, hpost⟩
  · exact bodyPost_end hrun s'.dfr ⟨_, σ', Z', rfl, hpost⟩

theorem ins_chk {α : Type} {a0 a2 : List α} {a1 : Int} (h : (decide (0 ≤ a1) && decide (a1.toNat ≤ a0.length) && decide (a2.length = 1) && decide (a0.length + 1 ≤ LIM)) = true) : 0 ≤ a1 ∧ a1.toNat ≤ a0.length ∧ (∃ v, a2 = [v]) ∧ a0.length + 1 ≤ 4294967296 := by
  simp only [Bool.and_eq_true, decide_eq_true_eq] at h
  exact ⟨h.1.1.1, h.1.1.2, List.length_eq_one_iff.1 h.1.2, h.2⟩
theorem ins_end {α : Type} {xs : List α} {v : α} : xs.take xs.length ++ [v] ++ xs.drop xs.length = xs ++ [v] := by simp
theorem ins_len {α : Type} {xs : List α} {v : α} {i : Nat} (h : i ≤ xs.length) : (xs.take i ++ [v] ++ xs.drop i).length = xs.length + 1 := by simp; omega
theorem ins_map {α : Type} {f : α → D} {xs : List α} {v : α} {i : Nat} : (xs.take i ++ [v] ++ xs.drop i).map f = (xs.map f).take i ++ [f v] ++ (xs.map f).drop i := by simp [List.map_take, List.map_drop]
theorem ins_cut {α : Type} {xs : List α} {i : Nat} (h : i ≤ xs.length) : ∃ A B, xs = A ++ B ∧ A.length = i := ⟨xs.take i, xs.drop i, (List.take_append_drop i xs).symm, by rw [List.length_take, Nat.min_eq_left h]⟩
theorem ins_g1 {xs : List D} {v z : D} {i : Nat} (h : i ≤ xs.length) : xs.take i ++ [v] ++ List.replicate (xs.length - i) z = (xs.take i ++ List.replicate (xs.length + 1 - i) z).take i ++ ([v].drop 0).take 1 ++ (xs.take i ++ List.replicate (xs.length + 1 - i) z).drop (i + 1) := by
  obtain ⟨A, B, rfl, rfl⟩ := ins_cut h
  have e1 : (A ++ B).length + 1 - A.length = B.length + 1 := by rw [List.length_append]; omega
  have e2 : (A ++ B).length - A.length = B.length := by rw [List.length_append]; omega
  have e3 : (A ++ B).take A.length = A := List.take_left
  have e4 : (A ++ List.replicate (B.length + 1) z).take A.length = A := List.take_left
  have e5 : (A ++ List.replicate (B.length + 1) z).drop (A.length + 1) = List.replicate B.length z := by
    rw [← List.drop_drop, List.drop_left, List.drop_replicate]; rfl
  rw [e1, e2, e3, e4, e5]; rfl
theorem ins_g2 {xs : List D} {v z : D} {i : Nat} (h : i ≤ xs.length) : xs.take i ++ [v] ++ xs.drop i = (xs.take i ++ [v] ++ List.replicate (xs.length - i) z).take (i + 1) ++ (xs.drop i).take (xs.length - i) ++ (xs.take i ++ [v] ++ List.replicate (xs.length - i) z).drop (i + 1 + (xs.length - i)) := by
  obtain ⟨A, B, rfl, rfl⟩ := ins_cut h
  have e2 : (A ++ B).length - A.length = B.length := by rw [List.length_append]; omega
  have e3 : (A ++ B).take A.length = A := List.take_left
  have e4 : (A ++ B).drop A.length = B := List.drop_left
  have e5 : (A ++ [v] ++ List.replicate B.length z).take (A.length + 1) = A ++ [v] := List.take_left' (by simp)
  have e6 : (A ++ [v] ++ List.replicate B.length z).drop (A.length + 1 + B.length) = [] := List.drop_eq_nil_of_le (by simp only [List.length_append, List.length_replicate, List.length_cons, List.length_nil]; omega)
  rw [e2, e3, e4, e5, e6, List.take_length, List.append_nil]
theorem ins_i1 {xs : List D} {i : Nat} : xs.take (i + 1) ++ xs.drop i = xs.take (i + 1) ++ (xs.drop i).take (xs.length - i) ++ xs.drop (i + 1 + (xs.length - i)) := by
  have e1 : (xs.drop i).take (xs.length - i) = xs.drop i := List.take_of_length_le (by rw [List.length_drop]; exact Nat.le_refl _)
  have e2 : xs.drop (i + 1 + (xs.length - i)) = [] := List.drop_eq_nil_of_le (by omega)
  rw [e1, e2, List.append_nil]
theorem ins_i2 {xs : List D} {v : D} {i : Nat} (h : i < xs.length) : xs.take i ++ [v] ++ xs.drop i = (xs.take (i + 1) ++ xs.drop i).take i ++ ([v].drop 0).take 1 ++ (xs.take (i + 1) ++ xs.drop i).drop (i + 1) := by
  have h1 : (xs.take (i + 1)).length = i + 1 := by rw [List.length_take]; omega
  have e1 : (xs.take (i + 1) ++ xs.drop i).drop (i + 1) = xs.drop i := List.drop_left' h1
  have e2 : (xs.take (i + 1) ++ xs.drop i).take i = xs.take i := by
    rw [List.take_append_of_le_length (by omega), List.take_take, Nat.min_eq_left (by omega)]
  rw [e1, e2]; rfl
theorem ins_chk0 {α : Type} {a1 : Int} {a2 : List α} (h : (decide (a1 = 0) && decide (a2.length = 1)) = true) : a1 = 0 ∧ ∃ v, a2 = [v] := by
  simp only [Bool.and_eq_true, decide_eq_true_eq] at h
  exact ⟨h.1, List.length_eq_one_iff.1 h.2⟩
end Go.Vc
