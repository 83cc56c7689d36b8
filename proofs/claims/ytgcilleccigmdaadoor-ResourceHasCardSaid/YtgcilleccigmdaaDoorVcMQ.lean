/- Maps whose entries stand in whatever order: what a loop over a map leaves does not depend on its order. -/
import Derived.Test.YtgcilleccigmdaaDoorVcME
namespace Go.Vc
open Go
variable {P : Program} {B : Base} {ops : Array Oper}

/-- a block read in another way -/
theorem Sim.reB {env : Env} {ob : Obs} {a : Act} {w : World} {σ : Nat → Option Nat} {Z : Nat → Prop} (s : Sim B env ob a w σ Z) {n : Nat} {S T : Blk} (hn : ob n = some (some (.blk S))) (h : ∀ b, σ n = some b → S.holds Z w b → T.holds Z w b) :
    Sim B env (updO ob n (some (.blk T))) a w σ Z := by
  have hl : ∀ m, live (updO ob n (some (.blk T))) m → live ob m := fun m ⟨o, h⟩ => by
    by_cases hm : m = n
    · subst hm; exact ⟨_, hn⟩
    · exact ⟨o, by simpa [updO, hm] using h⟩
  have m : Move ob (updO ob n (some (.blk T))) σ σ Z Z w w := ⟨Ext.refl _ _, fun m h => by
      by_cases hm : m = n
      · subst hm; simp [used, updO]
      · simpa [used, updO, hm] using h, fun m _ h => ⟨hl m h, rfl⟩, fun _ _ _ _ _ => rfl⟩
  refine { s with env := ?_, obj := ?_, inj := fun i j b hi hj => s.inj i j b (hl i hi) (hl j hj), blk := fun i b hi => s.blk i b (hl i hi), pin := fun i b hp hi => s.pin i b hp (hl i hi), shp := fun i b hp hi => s.shp i b hp (hl i hi) }
  · intro t x ht
    obtain ⟨v, h1, h2⟩ := s.env t x ht
    exact ⟨v, h1, h2.move m⟩
  · intro i o hi
    by_cases hin : i = n
    · subst hin
      have ho : o = .blk T := by simpa [updO] using hi.symm
      subst ho
      obtain ⟨b, hb, hS⟩ := s.obj i _ hn
      exact ⟨b, hb, h b hb hS⟩
    · have ho : ob i = some (some o) := by simpa [updO, hin] using hi
      have h := s.obj i o ho
      cases o with
      | box t x =>
        obtain ⟨b, cs, h1, h2, h3, h4, h5⟩ := h
        exact ⟨b, cs, h1, h2, h3, h4, V.rep_move m x _ h5⟩
      | row e' sz' es' => exact h
      | blk sp => exact h
      | know k => exact h
theorem updO_updO {ob : Obs} {n : Nat} {x y : Option Ob} : updO (updO ob n x) n y = updO ob n y := by
  funext k; unfold updO; by_cases h : k = n <;> simp [h]
theorem updO_same {ob : Obs} {n : Nat} {x : Option Ob} (h : ob n = some x) : updO ob n x = ob := by
  funext k; unfold updO
  by_cases hk : k = n
  · rw [if_pos hk, hk, h]
  · rw [if_neg hk]

/-- an operation that reads a block -/
theorem OpJ.reQ0 {o : Oper} {nt wt : List (Nat × V)} {nm : Nat} {S : Blk} (h : ∀ (Z : Nat → Prop) (w : World) (b : Nat), S.holds Z w b → ∃ T : Blk, T.holds Z w b ∧ (∀ (Z : Nat → Prop) (w : World) (b : Nat), T.holds Z w b → S.holds Z w b) ∧ OpJ P B ops o { nt, no := [(nm, .blk T)], wt }) :
    OpJ P B ops o { nt, no := [(nm, .blk S)], wt } := by
  intro Q env ob a w σ Z K s hn hK
  have hob : ob nm = some (some (.blk S)) := hn.2.1 (nm, .blk S) (by simp)
  obtain ⟨b, hb, hS⟩ := s.obj nm _ hob
  obtain ⟨T, hT, hback, hop⟩ := h Z w b hS
  have s1 := s.reB hob (T := T) (fun b' hb' _ => by
    have : b = b' := Option.some.inj (hb.symm.trans hb')
    rw [← this]; exact hT)
  have hT1 : updO ob nm (some (.blk T)) nm = some (some (.blk T)) := by simp [updO]
  refine hop Q env (updO ob nm (some (.blk T))) a w σ Z K s1 ⟨hn.1, fun p hp => by simp at hp; subst hp; exact hT1, fun n hn => by cases hn⟩ fun a' w' σ' Z' s' => hK a' w' σ' Z' ?_
  rw [eff_obs0 _ rfl] at s' ⊢
  have s2 := s'.reB hT1 (T := S) (fun b' _ h => hback _ _ _ h)
  rw [updO_updO, updO_same hob] at s2
  exact s2
/-- an operation that turns a block -/
theorem OpJ.reQ1 {o : Oper} {nt wt : List (Nat × V)} {nm : Nat} {S S' : Blk} (h : ∀ (Z : Nat → Prop) (w : World) (b : Nat), S.holds Z w b → ∃ T T' : Blk, T.holds Z w b ∧ (∀ (Z : Nat → Prop) (w : World) (b : Nat), T'.holds Z w b → S'.holds Z w b) ∧ OpJ P B ops o { nt, no := [(nm, .blk T)], wt, wo := [(nm, some (.blk T'))] }) :
    OpJ P B ops o { nt, no := [(nm, .blk S)], wt, wo := [(nm, some (.blk S'))] } := by
  intro Q env ob a w σ Z K s hn hK
  have hob : ob nm = some (some (.blk S)) := hn.2.1 (nm, .blk S) (by simp)
  obtain ⟨b, hb, hS⟩ := s.obj nm _ hob
  obtain ⟨T, T', hT, hback, hop⟩ := h Z w b hS
  have s1 := s.reB hob (T := T) (fun b' hb' _ => by
    have : b = b' := Option.some.inj (hb.symm.trans hb')
    rw [← this]; exact hT)
  have hT1 : updO ob nm (some (.blk T)) nm = some (some (.blk T)) := by simp [updO]
  refine hop Q env (updO ob nm (some (.blk T))) a w σ Z K s1 ⟨hn.1, fun p hp => by simp at hp; subst hp; exact hT1, fun n hn => by cases hn⟩ fun a' w' σ' Z' s' => hK a' w' σ' Z' ?_
  rw [eff_obs1 _ rfl] at s' ⊢
  have s2 := s'.reB (n := nm) (S := T') (by simp [updO]) (T := S') (fun b' _ h => hback _ _ _ h)
  rw [updO_updO, updO_updO] at s2
  exact s2

-- keys

mutual
theorem FitE.same_true : ∀ {h : Nat} {t : TypeId} {x y : D} {b : Bool}, FitE P h t x y b → x = y → b = true
  | _, _, _, _, _, .bool a b hu, e => by cases e; simp
  | _, _, _, _, _, .int a b hu, e => by cases e; simp
  | _, _, _, _, _, .str a b hu, e => by cases e; simp
  | _, _, _, _, _, .st hu hl hs hf, e => FitF.same_true hf (by cases e; rfl)
theorem FitF.same_true : ∀ {h o : Nat} {fs : List Field} {xs ys : List D} {b : Bool}, FitF P h o fs xs ys b → xs = ys → b = true
  | _, _, _, _, _, _, .nil, _ => rfl
  | _, _, _, _, _, _, .cons hn ho ht hx hy he hf, e => by
    rw [FitE.same_true he (by cases e; rfl), FitF.same_true hf (by cases e; rfl)]; rfl
end
section
variable {α β : Type} {f : α → D} {g : β → D} {eq : α → α → Bool} {kt : TypeId}
theorem KeyEq.iff (he : KeyEq P kt f eq) (a b : α) : eq a b = true ↔ f a = f b := by
  obtain ⟨h, _, hf⟩ := he.fit
  exact ⟨he.same a b, fun e => (hf a b).same_true e⟩
/-- keys are apart -/
def dn (f : α → D) (l : List (α × β)) : Prop := (l.map fun p => f p.1).Nodup
theorem dn_perm {l l' : List (α × β)} (h : l'.Perm l) (hd : dn f l') : dn f l := (h.map _).nodup_iff.1 hd
theorem mget_mem (he : KeyEq P kt f eq) {k : α} {v : β} : ∀ {l : List (α × β)}, dn f l → (mget eq l k = some v ↔ ∃ p ∈ l, f k = f p.1 ∧ p.2 = v)
  | [], _ => by simp [mget, mix]
  | p :: l, hd => by
    have hd' : dn f l := (List.nodup_cons.1 hd).2
    have hno := (List.nodup_cons.1 hd).1
    have ih := mget_mem he (k := k) (v := v) hd'
    have e0 : mget eq (p :: l) k = if eq k p.1 = true then some p.2 else mget eq l k := by
      have e : mix eq k (p :: l) = if eq k p.1 = true then some (0, p.2) else (mix eq k l).map fun r => (r.1 + 1, r.2) := by rw [mix]
      show (mix eq k (p :: l)).map (·.2) = if eq k p.1 = true then some p.2 else (mix eq k l).map (·.2)
      rw [e]
      by_cases h : eq k p.1 = true
      · rw [if_pos h, if_pos h]; rfl
      · rw [if_neg h, if_neg h]
        cases mix eq k l <;> rfl
    rw [e0]
    by_cases hk : eq k p.1 = true
    · have hk' := (he.iff _ _).1 hk
      rw [if_pos hk]
      constructor
      · intro e; exact ⟨p, List.mem_cons_self, hk', Option.some.inj e⟩
      · rintro ⟨q, hq, h1, h2⟩
        rcases List.mem_cons.1 hq with rfl | hq
        · rw [h2]
        · exact (hno (List.mem_map.2 ⟨q, hq, h1.symm.trans hk'⟩)).elim
    · rw [if_neg hk, ih]
      constructor
      · rintro ⟨q, hq, h⟩; exact ⟨q, List.mem_cons_of_mem _ hq, h⟩
      · rintro ⟨q, hq, h1, h2⟩
        rcases List.mem_cons.1 hq with rfl | hq
        · exact (hk ((he.iff _ _).2 h1)).elim
        · exact ⟨q, hq, h1, h2⟩
theorem mget_perm (he : KeyEq P kt f eq) {l l' : List (α × β)} (h : l'.Perm l) (hd : dn f l') (k : α) : mget eq l' k = mget eq l k := by
  refine Option.ext fun v => ?_
  rw [mget_mem he hd, mget_mem he (dn_perm h hd)]
  constructor
  · rintro ⟨p, hp, h2⟩; exact ⟨p, h.mem_iff.1 hp, h2⟩
  · rintro ⟨p, hp, h2⟩; exact ⟨p, h.mem_iff.2 hp, h2⟩
theorem mput_perm (he : KeyEq P kt f eq) {k : α} {v : β} {l l' : List (α × β)} (h : l'.Perm l) : dn f l' → (mput eq l' k v).Perm (mput eq l k v) := by
  induction h with
  | nil => intro _; exact List.Perm.refl _
  | cons x h ih =>
    intro hd
    have ih := ih (List.nodup_cons.1 hd).2
    unfold mput
    by_cases hk : eq k x.1 = true
    · rw [if_pos hk, if_pos hk]; exact h.cons _
    · rw [if_neg hk, if_neg hk]; exact ih.cons _
  | swap x y l =>
    intro hd
    have hne : f y.1 ≠ f x.1 := fun e => (List.nodup_cons.1 hd).1 (List.mem_map.2 ⟨x, List.mem_cons_self, e.symm⟩)
    simp only [mput]
    by_cases h1 : eq k y.1 = true
    · have h2 : ¬ eq k x.1 = true := fun e => hne (((he.iff _ _).1 h1).symm.trans ((he.iff _ _).1 e))
      rw [if_pos h1, if_neg h2, if_pos h1]
      exact List.Perm.swap _ _ _
    · by_cases h2 : eq k x.1 = true
      · rw [if_neg h1, if_pos h2, if_pos h2]
        exact List.Perm.swap _ _ _
      · rw [if_neg h1, if_neg h2, if_neg h2, if_neg h1]
        exact List.Perm.swap _ _ _
  | trans h1 h2 ih1 ih2 => intro hd; exact (ih1 hd).trans (ih2 (dn_perm h1 hd))
theorem mdel_perm (he : KeyEq P kt f eq) {k : α} {l l' : List (α × β)} (h : l'.Perm l) : dn f l' → (mdel eq l' k).Perm (mdel eq l k) := by
  induction h with
  | nil => intro _; exact List.Perm.refl _
  | cons x h ih =>
    intro hd
    have ih := ih (List.nodup_cons.1 hd).2
    unfold mdel
    by_cases hk : eq k x.1 = true
    · rw [if_pos hk, if_pos hk]; exact h
    · rw [if_neg hk, if_neg hk]; exact ih.cons _
  | swap x y l =>
    intro hd
    have hne : f y.1 ≠ f x.1 := fun e => (List.nodup_cons.1 hd).1 (List.mem_map.2 ⟨x, List.mem_cons_self, e.symm⟩)
    simp only [mdel]
    by_cases h1 : eq k y.1 = true
    · have h2 : ¬ eq k x.1 = true := fun e => hne (((he.iff _ _).1 h1).symm.trans ((he.iff _ _).1 e))
      rw [if_pos h1, if_neg h2, if_pos h1]
    · by_cases h2 : eq k x.1 = true
      · rw [if_neg h1, if_pos h2, if_pos h2]
      · rw [if_neg h1, if_neg h2, if_neg h2, if_neg h1]
        exact List.Perm.swap _ _ _
  | trans h1 h2 ih1 ih2 => intro hd; exact (ih1 hd).trans (ih2 (dn_perm h1 hd))
theorem mput_key {k : α} {v : β} {x : D} : ∀ {l : List (α × β)}, x ∈ ((mput eq l k v).map fun p => f p.1) → x ∈ (l.map fun p => f p.1) ∨ x = f k
  | [], h => by simpa [mput] using h
  | p :: l, h => by
    unfold mput at h
    split at h
    · exact .inl (by simpa using h)
    · rw [List.map_cons] at h ⊢
      rcases List.mem_cons.1 h with h | h
      · exact .inl (by rw [h]; exact List.mem_cons_self)
      · rcases mput_key h with h | h
        · exact .inl (List.mem_cons_of_mem _ h)
        · exact .inr h
theorem mput_dn (he : KeyEq P kt f eq) {k : α} {v : β} : ∀ {l : List (α × β)}, dn f l → dn f (mput eq l k v)
  | [], _ => by simp [mput, dn]
  | p :: l, hd => by
    have h1 := List.nodup_cons.1 hd
    unfold mput
    by_cases hk : eq k p.1 = true
    · rw [if_pos hk]; exact hd
    · rw [if_neg hk]
      refine List.nodup_cons.2 ⟨fun hm => ?_, mput_dn he h1.2⟩
      rcases mput_key hm with h | h
      · exact h1.1 h
      · exact hk ((he.iff _ _).2 h.symm)
theorem mdel_sub {k : α} : ∀ l : List (α × β), (mdel eq l k).Sublist l
  | [] => List.Sublist.refl _
  | p :: l => by
    unfold mdel
    split
    · exact List.sublist_cons_self _ _
    · exact (mdel_sub l).cons_cons _
theorem mdel_dn {k : α} {l : List (α × β)} (hd : dn f l) : dn f (mdel eq l k) := hd.sublist ((mdel_sub l).map _)
end
theorem perm_lift {A C : Type} (h : A → C) {l : List A} {qs : List C} (hp : qs.Perm (l.map h)) : ∃ l' : List A, l'.Perm l ∧ qs = l'.map h := by
  generalize hm : l.map h = m at hp
  induction hp generalizing l with
  | nil => exact ⟨[], by rw [List.map_eq_nil_iff.1 hm], rfl⟩
  | cons x hp ih =>
    cases l with
    | nil => cases hm
    | cons a l =>
      rw [List.map_cons, List.cons.injEq] at hm
      obtain ⟨l', h1, h2⟩ := ih hm.2
      exact ⟨a :: l', h1.cons a, by rw [List.map_cons, hm.1, h2]⟩
  | swap x y m =>
    cases l with
    | nil => cases hm
    | cons a l =>
      cases l with
      | nil => cases hm
      | cons b l =>
        simp only [List.map_cons, List.cons.injEq] at hm
        exact ⟨b :: a :: l, List.Perm.swap a b l, by rw [List.map_cons, List.map_cons, hm.1, hm.2.1, hm.2.2]⟩
  | trans h1 h2 ih1 ih2 =>
    obtain ⟨l2, g1, g2⟩ := ih2 hm
    obtain ⟨l1, g3, g4⟩ := ih1 g2.symm
    exact ⟨l1, g3.trans g1, g4⟩

-- maps

def mapQ (ps : List (D × D)) : Blk where
  holds Z w b := ∃ qs : List (D × D), qs.Perm ps ∧ (qs.map (·.1)).Nodup ∧ (mapB qs).holds Z w b
  move hx hb h := by
    obtain ⟨qs, h1, h2, h3⟩ := h
    exact ⟨qs, h1, h2, (mapB qs).move hx hb h3⟩
  lt h := by
    obtain ⟨qs, _, _, h3⟩ := h
    exact (mapB qs).lt h3
theorem mapQ.lift {α β : Type} {f : α → D} {g : β → D} {l : List (α × β)} {Z : Nat → Prop} {w : World} {b : Nat} (h : (mapQ (mpairs f g l)).holds Z w b) : ∃ l' : List (α × β), l'.Perm l ∧ dn f l' ∧ (mapB (mpairs f g l')).holds Z w b := by
  obtain ⟨qs, h1, h2, h3⟩ := h
  obtain ⟨l', g1, g2⟩ := perm_lift _ h1
  subst g2
  refine ⟨l', g1, ?_, h3⟩
  rw [List.map_map] at h2
  exact h2
theorem mapQ.of {α β : Type} {f : α → D} {g : β → D} {l l' : List (α × β)} {Z : Nat → Prop} {w : World} {b : Nat} (hp : l'.Perm l) (hd : dn f l') (h : (mapB (mpairs f g l')).holds Z w b) : (mapQ (mpairs f g l)).holds Z w b :=
  ⟨mpairs f g l', hp.map _, by unfold mpairs; rw [List.map_map]; exact hd, h⟩

section
variable {d : Nat} {x y i : Operand} {ty : TypeId} {pos : String} {af : Array Edge} {nt nt' nt'' : List (Nat × V)}
theorem OpJ.mkmapQ {t : TypeId} (hB : B.ok) {nm : Nat} (hnm : 1000 ≤ nm) (hN : d < B.N) :
    OpJ P B ops ⟨some d, .makeMap t none, ty, pos, af, none⟩ { nf := [nm], wt := [(d, .mref nm)], wo := [(nm, some (.blk (mapQ [])))] } := by
  intro Q env ob a w σ Z K s hn hK
  refine OpJ.mkmap hB hnm hN Q env ob a w σ Z K s hn fun a' w' σ' Z' s' => hK a' w' σ' Z' ?_
  rw [eff_obs1 _ rfl] at s' ⊢
  have s2 := s'.reB (n := nm) (S := mapB []) (by simp [updO]) (T := mapQ []) (fun b' _ h => ⟨[], List.Perm.refl _, List.Pairwise.nil, h⟩)
  rw [updO_updO] at s2
  exact s2
section
variable {α β : Type} {f : α → D} {g : β → D} {eq : α → α → Bool} {kt et t : TypeId} {kd : TypeDesc} {nm : Nat} {l : List (α × β)} {k : α}
theorem OpJ.mlook2Q (hu : P.underlying t = some (.map kt et)) (hk : P.underlying kt = some kd) (he : KeyEq P kt f eq) {z : β} (hz : TyZ P et (.d (g z))) (hN : d < B.N) (hx : Opd x (.mref nm) nt) (hi : Opd i (.d (f k)) nt') :
    OpJ P B ops ⟨some d, .lookup t x i true, ty, pos, af, none⟩ { nt := nt ++ nt', no := [(nm, .blk (mapQ (mpairs f g l)))], wt := [(d, .tup [.d (g ((mget eq l k).getD z)), .d (.bool (mget eq l k).isSome)])] } :=
  OpJ.reQ0 fun Z w b hS => by
    obtain ⟨l', h1, h2, h3⟩ := mapQ.lift hS
    refine ⟨mapB (mpairs f g l'), h3, fun Z w b h => mapQ.of h1 h2 h, ?_⟩
    rw [← mget_perm he h1 h2 k]
    exact OpJ.mlook2 hu hk he hz hN hx hi
theorem OpJ.mlookQ (hu : P.underlying t = some (.map kt et)) (hk : P.underlying kt = some kd) (he : KeyEq P kt f eq) {z : β} (hz : TyZ P et (.d (g z))) (hN : d < B.N) (hx : Opd x (.mref nm) nt) (hi : Opd i (.d (f k)) nt') :
    OpJ P B ops ⟨some d, .lookup t x i false, ty, pos, af, none⟩ { nt := nt ++ nt', no := [(nm, .blk (mapQ (mpairs f g l)))], wt := [(d, .d (g ((mget eq l k).getD z)))] } :=
  OpJ.reQ0 fun Z w b hS => by
    obtain ⟨l', h1, h2, h3⟩ := mapQ.lift hS
    refine ⟨mapB (mpairs f g l'), h3, fun Z w b h => mapQ.of h1 h2 h, ?_⟩
    rw [← mget_perm he h1 h2 k]
    exact OpJ.mlook hu hk he hz hN hx hi
theorem OpJ.mputQ (hu : P.underlying t = some (.map kt et)) (hk : P.underlying kt = some kd) (he : KeyEq P kt f eq) {v : β} (hx : Opd x (.mref nm) nt) (hi : Opd i (.d (f k)) nt') (hy : Opd y (.d (g v)) nt'') :
    OpJ P B ops ⟨none, .mapUpdate t x i y, ty, pos, af, none⟩ { nt := nt ++ (nt' ++ nt''), no := [(nm, .blk (mapQ (mpairs f g l)))], wo := [(nm, some (.blk (mapQ (mpairs f g (Vc.mput eq l k v)))))] } :=
  OpJ.reQ1 fun Z w b hS => by
    obtain ⟨l', h1, h2, h3⟩ := mapQ.lift hS
    exact ⟨mapB (mpairs f g l'), mapB (mpairs f g (Vc.mput eq l' k v)), h3, fun Z w b h => mapQ.of (mput_perm he h1 h2) (mput_dn he h2) h, OpJ.mput hu hk he hx hi hy⟩
theorem OpJ.mdelQ {ts : Array TypeId} (hts : ts[0]? = some t) (hu : P.underlying t = some (.map kt et)) (hk : P.underlying kt = some kd) (he : KeyEq P kt f eq) (hx : Opd x (.mref nm) nt) (hi : Opd i (.d (f k)) nt') :
    OpJ P B ops ⟨none, .call { callee := .builtin .delete, args := #[x, i], argTypes := ts }, ty, pos, af, none⟩ { nt := nt ++ nt', no := [(nm, .blk (mapQ (mpairs f g l)))], wo := [(nm, some (.blk (mapQ (mpairs f g (Vc.mdel eq l k)))))] } :=
  OpJ.reQ1 fun Z w b hS => by
    obtain ⟨l', h1, h2, h3⟩ := mapQ.lift hS
    exact ⟨mapB (mpairs f g l'), mapB (mpairs f g (Vc.mdel eq l' k)), h3, fun Z w b h => mapQ.of (mdel_perm he h1 h2) (mdel_dn h2) h, OpJ.mdel hts hu hk he hx hi⟩
end
section
variable {kt et t : TypeId} {nm it : Nat} {ps : List (D × D)}
theorem OpJ.mlenQ (hu : P.underlying t = some (.map kt et)) (hN : d < B.N) (hx : Opd x (.mref nm) nt) :
    OpJ P B ops ⟨some d, .call { callee := .builtin .len, args := #[x], argTypes := #[t] }, ty, pos, af, none⟩ { nt, no := [(nm, .blk (mapQ ps))], wt := [(d, .d (.int .i64 (ps.length : Int)))] } :=
  OpJ.reQ0 fun Z w b hS => by
    obtain ⟨qs, h1, h2, h3⟩ := hS
    refine ⟨mapB qs, h3, fun Z w b h => ⟨qs, h1, h2, h⟩, ?_⟩
    rw [← h1.length_eq]
    exact OpJ.mlen hu hN hx
/-- an iterator that has not begun -/
def iterQ (ps : List (D × D)) : Blk where
  holds Z w b := ∃ qs : List (D × D), qs.Perm ps ∧ (iterB qs none).holds Z w b
  move hx hb h := by
    obtain ⟨qs, h1, h3⟩ := h
    exact ⟨qs, h1, (iterB qs none).move hx hb h3⟩
  lt h := by
    obtain ⟨qs, _, h3⟩ := h
    exact (iterB qs none).lt h3
theorem OpJ.mrangeQ (hB : B.ok) (hu : P.underlying t = some (.map kt et)) (hit : 1000 ≤ it) (hne : it ≠ nm) (hN : d < B.N) (hx : Opd x (.mref nm) nt) :
    OpJ P B ops ⟨some d, .range t x, ty, pos, af, none⟩ { nt, no := [(nm, .blk (mapQ ps))], nf := [it], wt := [(d, .ptr it 0 [])], wo := [(it, some (.blk (iterQ ps))), (nm, none)] } := by
  intro Q env ob a w σ Z K s hn hK
  have hob : ob nm = some (some (.blk (mapQ ps))) := hn.2.1 (nm, .blk (mapQ ps)) (by simp)
  have hfr : ob it = none := hn.2.2 it (by simp)
  obtain ⟨b, hb, qs, h1, h2, h3⟩ := s.obj nm _ hob
  have s1 := s.reB hob (T := mapB qs) (fun b' hb' _ => by
    have : b = b' := Option.some.inj (hb.symm.trans hb')
    rw [← this]; exact h3)
  have hT1 : updO ob nm (some (.blk (mapB qs))) nm = some (some (.blk (mapB qs))) := by simp [updO]
  refine OpJ.mrange (ps := qs) hB hu hit hne hN hx Q env (updO ob nm (some (.blk (mapB qs)))) a w σ Z K s1 ⟨hn.1, fun p hp => by simp at hp; subst hp; exact hT1, fun n hn => by simp at hn; subst hn; simp [updO, hne, hfr]⟩ fun a' w' σ' Z' s' => hK a' w' σ' Z' ?_
  have hi : Eff.obs { nt, no := [(nm, .blk (mapB qs))], nf := [it], wt := [(d, .ptr it 0 [])], wo := [(it, some (.blk (iterB qs none))), (nm, none)] } (updO ob nm (some (.blk (mapB qs)))) it = some (some (.blk (iterB qs none))) := by
    simp [Eff.obs, look_cons]
  have s2 := s'.reB hi (T := iterQ ps) (fun b' _ h => ⟨qs, h1, h⟩)
  have e : updO (Eff.obs { nt, no := [(nm, .blk (mapB qs))], nf := [it], wt := [(d, .ptr it 0 [])], wo := [(it, some (.blk (iterB qs none))), (nm, none)] } (updO ob nm (some (.blk (mapB qs))))) it (some (.blk (iterQ ps))) = Eff.obs { nt, no := [(nm, .blk (mapQ ps))], nf := [it], wt := [(d, .ptr it 0 [])], wo := [(it, some (.blk (iterQ ps))), (nm, none)] } ob := by
    funext q
    simp only [Eff.obs, look_cons, updO]
    by_cases g1 : q = it
    · subst g1; simp
    · by_cases g2 : q = nm
      · subst g2; simp [g1, hne]
      · simp [g1, g2, Ne.symm g1, Ne.symm g2, look]
  rw [e] at s2
  exact s2
end
end
theorem AWp.loopMQ {A S : Type} {Q : Exit → EL → OL → Prop} {t7 t8 t9 id k it : Nat} {ty8 ty9 : TypeId} {pos8 pos9 : String} {af8 af9 : Array Edge} {body : Code} (f : A → D × D) (l : List A) (tb : S → A → Option S) (pe : S → EL) (po : S → OL) {s0 : S} (h8 : t8 < B.N) (h9 : t9 < B.N)
    (hit : ∀ s, look (pe s) t7 = some (.ptr it 0 []))
    (hdef : ∀ p : List A, p.Perm l → ∃ s, foldS tb s0 p = some s)
    (hround : ∀ (s : S) (q : A) (s' : S) (left : List A), tb s q = some s' → AWp P B body (fun e E' O' => e = .normal ∧ Mat B E' O' (pe s') ((it, some (.blk (iterB (left.map f) (some (f q))))) :: po s')) (orun true (pe s) t8 t9) ((it, some (.blk (iterB (left.map f) (some (f q))))) :: po s))
    (hfin : ∀ p s, p.Perm l → foldS tb s0 p = some s → Q (.exit k) (orun false (pe s) t8 t9) ((it, none) :: po s)) :
    AWp P B (.loop (.seq (.region id [⟨some t8, .next (.tmp t7) false, ty8, pos8, af8, none⟩, ⟨some t9, .extract (.tmp t8) 0, ty9, pos9, af9, none⟩].toArray false) (.seq (.cond (.tmp t9) .skip (.exit k)) body))) Q (pe s0) ((it, some (.blk (iterQ (l.map f)))) :: po s0) := by
  intro a w σ Z sm
  have hob : look ((it, some (Ob.blk (iterQ (l.map f)))) :: po s0) it = some (some (.blk (iterQ (l.map f)))) := by rw [look_cons, if_pos rfl]
  obtain ⟨b, hb, qs, h1, h3⟩ := sm.obj it _ hob
  obtain ⟨l', g1, g2⟩ := perm_lift _ h1
  subst g2
  have s1 := sm.reB hob (T := iterB (l'.map f) none) (fun b' hb' _ => by
    have : b = b' := Option.some.inj (hb.symm.trans hb')
    rw [← this]; exact h3)
  have e : updO (look ((it, some (Ob.blk (iterQ (l.map f)))) :: po s0)) it (some (.blk (iterB (l'.map f) none))) = look ((it, some (.blk (iterB (l'.map f) none))) :: po s0) := by
    funext q
    unfold updO
    simp only [look_cons]
    by_cases h : q = it
    · subst h; simp
    · simp [h, Ne.symm h]
  rw [e] at s1
  exact AWp.loopM f l' tb pe po h8 h9 hit (fun p hp => hdef p (hp.trans g1)) hround (fun p s hp hs => hfin p s (hp.trans g1) hs) a w σ Z s1

-- one list for all orders

/-- a list that is the same for all orders -/
noncomputable def mcan {A : Type} (l : List A) : List A := Classical.choose (Quotient.exists_rep (Quotient.mk (List.isSetoid A) l))
theorem mcan_perm {A : Type} (l : List A) : (mcan l).Perm l := Quotient.exact (Classical.choose_spec (Quotient.exists_rep (Quotient.mk (List.isSetoid A) l)))
theorem mcan_congr {A : Type} {l l' : List A} (h : l.Perm l') : mcan l = mcan l' := by
  have e : Quotient.mk (List.isSetoid A) l = Quotient.mk (List.isSetoid A) l' := Quotient.sound h
  unfold mcan
  simp only [e]
theorem Mat.canonP {α β : Type} {f : α → D} {g : β → D} {l l' : List (α × β)} {E : EL} {O : OL} {n : Nat} (hn : look O n = some (some (.blk (mapQ (mpairs f g l))))) (he : l' = mcan l) : Mat B E O E ((n, some (.blk (mapQ (mpairs f g l')))) :: O) := fun a w σ Z s => by
  subst he
  have s' := s.reB hn (T := mapQ (mpairs f g (mcan l))) (fun b _ ⟨qs, h1, h2, h3⟩ => ⟨qs, h1.trans ((mcan_perm l).symm.map _), h2, h3⟩)
  rw [← look_updO] at s'
  exact ⟨σ, Z, s'⟩
theorem AC.mcloneQ {f : FuncId} (h : MCloneOk P f) (ps : List (D × D)) :
    AC P f [.mref 0] [(0, .blk (mapQ ps))] (.mref 900000) [(0, some (.blk (mapQ ps))), (900000, some (.blk (mapQ ps)))] := by
  intro w σ Z cargs pre
  have hlv : live (obOf [(0, Ob.blk (mapQ ps))]) 0 := ⟨_, rfl⟩
  have hob := pre.obj 0 _ (rfl : obOf [(0, Ob.blk (mapQ ps))] 0 = some (some (.blk (mapQ ps))))
  match cargs, pre.args with
  | [v], ⟨ha, _⟩ =>
    obtain ⟨b, hb, rfl⟩ := rep_mref ha hlv
    obtain ⟨b', hb', qs, hqp, hqn, ents, clock, hw, hl, hst⟩ := hob
    have : b' = b := Option.some.inj (hb'.symm.trans hb)
    subst this
    have hlt : b' < w.heap.size := (Array.getElem?_eq_some_iff.1 hw).1
    have hzb := pre.blk 0 b' hlv hb
    have hold : ∀ q, q < w.heap.size → (w.alloc (.map ents clock)).heap[q]? = w.heap[q]? := fun q hq => (MapKept.heap_alloc w _).2 q hq
    have hnew : (w.alloc (.map ents clock)).heap[w.heap.size]? = some (.map ents clock) := (MapKept.heap_alloc w _).1
    have hsz : w.heap.size ≤ (w.alloc (.map ents clock)).heap.size := by
      have h9 := (Array.getElem?_eq_some_iff.1 hnew).1
      omega
    have hx : Ext Z Z w (w.alloc (.map ents clock)) := ⟨fun _ h => h, fun q hq => hold q (pre.zlt q hq)⟩
    have two : ∀ n o, look [(0, some (Ob.blk (mapQ ps))), (900000, some (Ob.blk (mapQ ps)))] n = some (some o) → (n = 0 ∨ n = 900000) ∧ o = .blk (mapQ ps) := fun n o hq => by
      rw [look_cons] at hq
      split at hq
      · rename_i hn; cases hq; exact ⟨.inl hn.symm, rfl⟩
      · rw [look_cons] at hq
        split at hq
        · rename_i hn; cases hq; exact ⟨.inr hn.symm, rfl⟩
        · simp [look] at hq
    refine (h.run b' ents clock w hw).mono fun ex w' ⟨g1, g2⟩ => ?_
    subst g1; subst g2
    have hσ : ∀ n, n ≠ 900000 → (fun n => if n = 900000 then some w.heap.size else σ n) n = σ n := fun n hn => if_neg hn
    have hlv9 : live (look [(0, some (Ob.blk (mapQ ps))), (900000, some (Ob.blk (mapQ ps)))]) 900000 := ⟨_, rfl⟩
    refine ⟨_, fun n => if n = 900000 then some w.heap.size else σ n, Z, rfl, ⟨?_, fun n o hn => ?_, fun n m q hn hm h1 h2 => ?_, fun n hn _ _ => hσ n (by omega), fun n q hn _ _ hq => ?_, fun n q hn hq => ?_, fun q hq => Nat.lt_of_lt_of_le (pre.zlt q hq) hsz, fun _ h => h, fun _ h => .inl h, rfl, rfl, rfl, hsz, fun q hq _ => hold q hq⟩⟩
    · exact mk_mref hlv9 (by simp)
    · obtain ⟨hn, ho⟩ := two n o hn
      rw [ho]
      rcases hn with rfl | rfl
      · exact ⟨b', by simpa using hb, qs, hqp, hqn, ents, clock, (hold b' hlt).trans hw, hl.ext hx, hst⟩
      · exact ⟨w.heap.size, by simp, qs, hqp, hqn, ents, clock, hnew, hl.ext hx, hst⟩
    · obtain ⟨o, hn⟩ := hn; obtain ⟨o', hm⟩ := hm
      obtain ⟨hn, _⟩ := two n o hn
      obtain ⟨hm, _⟩ := two m o' hm
      rcases hn with rfl | rfl <;> rcases hm with rfl | rfl
      · rfl
      · simp only [show (0 : Nat) ≠ 900000 by decide, if_false, if_true] at h1 h2
        have : b' = q := Option.some.inj (hb.symm.trans h1)
        have : w.heap.size = q := Option.some.inj h2
        omega
      · simp only [show (0 : Nat) ≠ 900000 by decide, if_false, if_true] at h1 h2
        have : b' = q := Option.some.inj (hb.symm.trans h2)
        have : w.heap.size = q := Option.some.inj h1
        omega
      · rfl
    · have hql : live (obOf [(0, Ob.blk (mapQ ps))]) n → n = 0 := fun ⟨o, ho⟩ => by
        simp only [obOf, look_cons] at ho
        by_cases h : 0 = n
        · exact h.symm
        · simp [h, look] at ho
      rename_i hl0 _
      obtain rfl := hql hl0
      have : b' = q := Option.some.inj (hb.symm.trans hq)
      subst this
      simp only [World.shape?, hold b' hlt]
    · obtain ⟨o, hn⟩ := hn
      obtain ⟨hn, _⟩ := two n o hn
      rcases hn with rfl | rfl
      · simp only [show (0 : Nat) ≠ 900000 by decide, if_false] at hq
        have : b' = q := Option.some.inj (hb.symm.trans hq)
        subst this
        exact ⟨hzb, .inr ⟨0, hlv, hb⟩⟩
      · simp only [if_true] at hq
        have : w.heap.size = q := Option.some.inj hq
        subst this
        exact ⟨fun hz => by have := pre.zlt _ hz; omega, .inl (Nat.le_refl _)⟩
end Go.Vc
