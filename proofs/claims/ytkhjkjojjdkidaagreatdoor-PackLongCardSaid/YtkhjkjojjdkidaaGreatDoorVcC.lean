/- What an operation does to the abstract state, as data; a region of such operations, in the text's order or in any order that its edges allow. -/
import Derived.Test.YtkhjkjojjdkidaaGreatDoorVcB
import Derived.Orders
namespace Go.Vc
open Go
def look {α:Type}:List (Nat×α)→Nat→Option α
 | [],_=>none
 | (j,x) :: l,k=>bif Nat.beq j k then some x else look l k
theorem F0 {α:Type} (j k:Nat) (x:α) (l:List (Nat×α)):look ((j,x) :: l) k=if j=k then some x else look l k:=by
 simp only [look]
 by_cases h:j=k
 ·subst h;simp
 ·have:Nat.beq j k=false:=by cases hb:Nat.beq j k<;>simp_all
  simp [this,h]
theorem I7 {α:Type} {k:Nat} {x:α}:∀ {l:List (Nat×α)},look l k=some x→(k,x)∈l
 | [],h=>by simp [look] at h
 | (j,y) :: l,h=>by
  rw [F0] at h
  by_cases hj:j=k
  ·subst hj;simp at h;subst h;exact List.mem_cons_self ..
  ·rw [if_neg hj] at h;exact List.mem_cons_of_mem _ (I7 h)
structure Eff where
 nt:List (Nat×V):=[]
 no:List (Nat×Ob):=[]
 nf:List Nat:=[]
 wt:List (Nat×V):=[]
 wo:List (Nat×Option Ob):=[]
def Eff.env (α:Eff) (env:Env):Env:=fun k=>match look α.wt k with | some x=>some x | none=>env k
def Eff.obs (α:Eff) (ob:Obs):Obs:=fun n=>match look α.wo n with | some x=>some x | none=>ob n
def Eff.needs (α:Eff) (env:Env) (ob:Obs):Prop :=
 (∀ p∈α.nt,env p.1=some p.2)∧(∀ p∈α.no,ob p.1=some (some p.2))∧(∀ n∈α.nf,ob n=none)
def OpJ (P:Program) (B:Base) (ops:Array Oper) (o:Oper) (α:Eff):Prop :=
 ∀ (Q:Exit→Act→World→Prop) (env:Env) (ob:Obs) (a:Act) (w:World) (σ:Nat→Option Nat) (Z:Nat→Prop) (K:Act→World→Prop),
  Sim B env ob a w σ Z→α.needs env ob→(∀ a' w' σ' Z',Sim B (α.env env) (α.obs ob) a' w' σ' Z'→K a' w') →
  if Region.wanted o (yielded ops a.tmps)=true then o.wp P a w K Q else K (a.put o.dst undef) w
def OpJI (P:Program) (B:Base) (ops:Array Oper) (I:Obs→Prop) (o:Oper) (α:Eff):Prop :=
 ∀ (Q:Exit→Act→World→Prop) (env:Env) (ob:Obs) (a:Act) (w:World) (σ:Nat→Option Nat) (Z:Nat→Prop) (K:Act→World→Prop),I ob →
  Sim B env ob a w σ Z→α.needs env ob→(∀ a' w' σ' Z',Sim B (α.env env) (α.obs ob) a' w' σ' Z'→K a' w') →
  if Region.wanted o (yielded ops a.tmps)=true then o.wp P a w K Q else K (a.put o.dst undef) w
theorem OpJ.toI {P:Program} {B:Base} {ops:Array Oper} {I:Obs→Prop} {o:Oper} {α:Eff} (h:OpJ P B ops o α):OpJI P B ops I o α:=fun Q env ob a w σ Z K _=>h Q env ob a w σ Z K
def runEnv (S:Nat→Bool):List Eff→Nat→Env→Env
 | [],_,env=>env
 | α :: l,i,env=>runEnv S l (i+1) (if S i then α.env env else env)
def runObs (S:Nat→Bool):List Eff→Nat→Obs→Obs
 | [],_,ob=>ob
 | α :: l,i,ob=>runObs S l (i+1) (if S i then α.obs ob else ob)
def needsAll:List Eff→Env→Obs→Prop
 | [],_,_=>True
 | α :: l,env,ob=>α.needs env ob∧needsAll l (α.env env) (α.obs ob)
theorem A5c (k:Nat):∀ (l:List Eff) (i:Nat) (env env':Env) (S S':Nat→Bool),env k=env' k →
  (∀ j α,l[j]? = some α→look α.wt k≠none→S (i+j)=S' (i+j))→runEnv S l i env k=runEnv S' l i env' k
 | [],_,_,_,_,_,h,_=>h
 | α :: l,i,env,env',S,S',h,hs=>by
  simp only [runEnv]
  refine A5c k l (i+1) _ _ S S' ?_ (fun j β hj hb=>by have:=hs (j+1) β (by simpa using hj) hb;rwa [show i+(j+1)=i+1+j from by omega] at this)
  by_cases hn:look α.wt k=none
  ·have e:∀ (c:Bool) (e:Env),(if c then α.env e else e) k=e k:=fun c e=>by cases c<;>simp [Eff.env,hn]
   rw [e,e,h]
  ·have:=hs 0 α rfl hn
   simp only [Nat.add_zero] at this
   rw [this]
   cases S' i
   ·simpa using h
   ·simp only [if_true,Eff.env]
    cases hl:look α.wt k<;>simp_all
theorem A3o (k:Nat):∀ (l:List Eff) (i:Nat) (ob ob':Obs) (S S':Nat→Bool),ob k=ob' k →
  (∀ j α,l[j]? = some α→look α.wo k≠none→S (i+j)=S' (i+j))→runObs S l i ob k=runObs S' l i ob' k
 | [],_,_,_,_,_,h,_=>h
 | α :: l,i,ob,ob',S,S',h,hs=>by
  simp only [runObs]
  refine A3o k l (i+1) _ _ S S' ?_ (fun j β hj hb=>by have:=hs (j+1) β (by simpa using hj) hb;rwa [show i+(j+1)=i+1+j from by omega] at this)
  by_cases hn:look α.wo k=none
  ·have e:∀ (c:Bool) (e:Obs),(if c then α.obs e else e) k=e k:=fun c e=>by cases c<;>simp [Eff.obs,hn]
   rw [e,e,h]
  ·have:=hs 0 α rfl hn
   simp only [Nat.add_zero] at this
   rw [this]
   cases S' i
   ·simpa using h
   ·simp only [if_true,Eff.obs]
    cases hl:look α.wo k<;>simp_all
theorem A31:∀ (l:List Eff) (i:Nat) (env:Env) (S:Nat→Bool),(∀ m,i≤m→S m=false)→runEnv S l i env=env
 | [],_,_,_,_=>rfl
 | α :: l,i,env,S,h=>by
  simp only [runEnv,h i (Nat.le_refl _)]
  exact A31 l (i+1) env S (fun m hm=>h m (by omega))
theorem A32:∀ (l:List Eff) (i:Nat) (ob:Obs) (S:Nat→Bool),(∀ m,i≤m→S m=false)→runObs S l i ob=ob
 | [],_,_,_,_=>rfl
 | α :: l,i,ob,S,h=>by
  simp only [runObs,h i (Nat.le_refl _)]
  exact A32 l (i+1) ob S (fun m hm=>h m (by omega))
theorem A6w:∀ (l:List Eff) (i j:Nat) (env:Env) (ob:Obs) (α:Eff),needsAll l env ob→l[j]? = some α →
  α.needs (runEnv (fun m=>decide (m<i+j)) l i env) (runObs (fun m=>decide (m<i+j)) l i ob)
 | [],_,_,_,_,_,_,h=>by simp at h
 | β :: l,i,0,env,ob,α,hn,h=>by
  simp at h;subst h
  rw [A31 _ _ _ _ (fun m hm=>by simp;omega),A32 _ _ _ _ (fun m hm=>by simp;omega)]
  exact hn.1
 | β :: l,i,j+1,env,ob,α,hn,h=>by
  have:=A6w l (i+1) j (β.env env) (β.obs ob) α hn.2 (by simpa using h)
  simp only [runEnv,runObs,show decide (i<i+(j+1))=true from by simp,if_true]
  rw [show i+(j+1)=i+1+j from by omega]
  exact this
def keys {α:Type} (l:List (Nat×α)):List Nat:=l.map (·.1)
def apartL (xs ys:List Nat):Bool:=xs.all fun x=>ys.all fun y => !Nat.beq x y
def indep (α β:Eff):Bool :=
 apartL (keys α.wt) (keys β.nt++keys β.wt)&&apartL (keys β.wt) (keys α.nt) &&
 apartL (keys α.wo) (keys β.no++β.nf++keys β.wo)&&apartL (keys β.wo) (keys α.no++α.nf)
theorem B6g {x y:Nat} (h:(!Nat.beq x y)=true):x≠y:=by
 intro e;subst e
 have:Nat.beq x x=true:=by simp
 simp at h
theorem A33 {xs ys:List Nat} (h:apartL xs ys=true) {x:Nat} (hx:x∈xs) (hy:x∈ys):False:=by
 simp only [apartL,List.all_eq_true] at h
 exact B6g (h x hx x hy) rfl
theorem A1k {α:Type} {l:List (Nat×α)} {k:Nat} (h:look l k≠none):k∈keys l:=by
 cases hl:look l k with
 | none=>exact absurd hl h
 | some x=>exact List.mem_map.2 ⟨_,I7 hl,rfl⟩
theorem A83 {α:Type} {l:List (Nat×α)} {p:Nat×α} (h:p∈l):p.1∈keys l:=List.mem_map.2 ⟨p,h,rfl⟩
def reaches (ops:Array Oper):Nat→Nat→Nat→Bool
 | 0,_,_=>false
 | f+1,j,i=>match ops[j]? with
  | none=>false
  | some o=>o.after.any (fun e=>Region.binds .any e&&Nat.beq e.on i) || o.after.any (fun e=>Region.binds .any e&&reaches ops f e.on i)
def forth (ops:Array Oper):Bool:=(List.range ops.size).all fun i=>((ops[i]?).map fun o=>o.after.all fun e => !Region.binds .any e || decide (e.on<i)).getD true
def noConf (ops:Array Oper) (effs:List Eff):Bool :=
 forth ops&&Nat.beq effs.length ops.size &&
 (List.range effs.length).all fun j=>(List.range j).all fun i=>indep (effs.getD i {}) (effs.getD j {}) || reaches ops (j+1) j i
def Closed (ops:Array Oper) (S:Nat→Bool):Prop:=∀ (j:Nat) (o:Oper),ops[j]? = some o→S j=true→∀ e∈o.after,Region.binds .any e=true→S e.on=true
theorem A4m {ops:Array Oper} {S:Nat→Bool} (hc:Closed ops S):∀ (f j i:Nat),reaches ops f j i=true→S j=true→S i=true
 | 0,_,_,h,_=>by simp [reaches] at h
 | f+1,j,i,h,hj=>by
  simp only [reaches] at h
  cases ho:ops[j]? with
  | none=>simp [ho] at h
  | some o =>
   simp only [ho,Bool.or_eq_true] at h
   rcases h with h | h
   ·obtain⟨e,he,hb⟩:=Array.any_eq_true'.1 h
    simp only [Bool.and_eq_true] at hb
    have:=hc j o ho hj e he hb.1
    rwa [Nat.eq_of_beq_eq_true hb.2] at this
   ·obtain⟨e,he,hb⟩:=Array.any_eq_true'.1 h
    simp only [Bool.and_eq_true] at hb
    exact A4m hc f e.on i hb.2 (hc j o ho hj e he hb.1)
section
variable {P:Program} {B:Base} {ops:Array Oper} {effs:List Eff} {Q:Exit→Act→World→Prop}
theorem order {S:Nat→Bool} (hc:Closed ops S) (hn:noConf ops effs=true) {i j:Nat} {α β:Eff} (hij:i<j) (hi:effs[i]? = some α) (hj:effs[j]? = some β)
  (hx:indep α β=false) (hS:S j=true):S i=true:=by
 simp only [noConf,Bool.and_eq_true,List.all_eq_true,List.mem_range] at hn
 have hjl:j<effs.length:=(List.getElem?_eq_some_iff.1 hj).1
 have:=hn.2 j hjl i hij
 rw [show effs.getD i {}=α from by simp [List.getD,hi],show effs.getD j {}=β from by simp [List.getD,hj],hx,Bool.false_or] at this
 exact A4m hc _ _ _ this hS
theorem A6x {α β:Eff} {k:Nat} (h:k∈keys α.wt) (h':k∈keys β.nt∨k∈keys β.wt):indep α β=false:=by
 cases hb:indep α β with
 | false=>rfl
 | true =>
  simp only [indep,Bool.and_eq_true] at hb
  exact(A33 hb.1.1.1 h (by rw [List.mem_append];exact h')).elim
theorem A9z {α β:Eff} {k:Nat} (h:k∈keys β.wt) (h':k∈keys α.nt):indep α β=false:=by
 cases hb:indep α β with
 | false=>rfl
 | true =>
  simp only [indep,Bool.and_eq_true] at hb
  exact(A33 hb.1.1.2 h h').elim
theorem A6y {α β:Eff} {k:Nat} (h:k∈keys α.wo) (h':k∈keys β.no∨k∈β.nf∨k∈keys β.wo):indep α β=false:=by
 cases hb:indep α β with
 | false=>rfl
 | true =>
  simp only [indep,Bool.and_eq_true] at hb
  exact(A33 hb.1.2 h (by rw [List.mem_append,List.mem_append];rcases h' with h' | h' | h'<;>first | exact .inl (.inl h') | exact .inl (.inr h') | exact .inr h')).elim
theorem A61 {α β:Eff} {k:Nat} (h:k∈keys β.wo) (h':k∈keys α.no∨k∈α.nf):indep α β=false:=by
 cases hb:indep α β with
 | false=>rfl
 | true =>
  simp only [indep,Bool.and_eq_true] at hb
  exact(A33 hb.2 h (by rw [List.mem_append];exact h')).elim
theorem A6z {S:Nat→Bool} (hc:Closed ops S) (hn:noConf ops effs=true) {i j:Nat} {α β:Eff} (hi:effs[i]? = some α) (hj:effs[j]? = some β)
  (hS:S i=false) (hready:∀ m,(∀ (γ:Eff),effs[m]? = some γ→m<i→indep γ α=false→S m=true)) (hx:j<i→indep β α=false) (hx':i<j→indep α β=false) (hne:j=i→False) :
  S j=decide (j<0+i):=by
 rw [Nat.zero_add]
 rcases Nat.lt_trichotomy j i with h | h | h
 ·rw [hready j β hj h (hx h)];simp [h]
 ·exact(hne h).elim
 ·cases hs:S j with
  | false=>simp;omega
  | true =>
   have:=order hc hn h hi hj (hx' h) hs
   rw [hS] at this;cases this
theorem B5e {S:Nat→Bool} (hc:Closed ops S) (hn:noConf ops effs=true) {env:Env} {ob:Obs} (hall:needsAll effs env ob) {i:Nat} {α:Eff} (hi:effs[i]? = some α)
  (hS:S i=false) (hready:∀ (m:Nat) (γ:Eff),effs[m]? = some γ→m<i→indep γ α=false→S m=true) :
  α.needs (runEnv S effs 0 env) (runObs S effs 0 ob) ∧
  runEnv (fun m=>S m || Nat.beq m i) effs 0 env=α.env (runEnv S effs 0 env)∧runObs (fun m=>S m || Nat.beq m i) effs 0 ob=α.obs (runObs S effs 0 ob):=by
 have hat:=A6w effs 0 i env ob α hall hi
 have wagree:∀ (k:Nat) (j:Nat) (β:Eff),effs[j]? = some β→k∈keys β.wt→(k∈keys α.nt∨k∈keys α.wt)→j≠i→S j=decide (j<0+i):=by
  intro k j β hj hk hk' hne
  refine A6z hc hn hi hj hS hready (fun _=>A6x hk hk') (fun _ => ?_) hne
  rcases hk' with h | h
  ·exact A9z hk h
  ·exact A6x h (.inr hk)
 have oagree:∀ (k:Nat) (j:Nat) (β:Eff),effs[j]? = some β→k∈keys β.wo→(k∈keys α.no∨k∈α.nf∨k∈keys α.wo)→j≠i→S j=decide (j<0+i):=by
  intro k j β hj hk hk' hne
  refine A6z hc hn hi hj hS hready (fun _=>A6y hk hk') (fun _ => ?_) hne
  rcases hk' with h | h | h
  ·exact A61 hk (.inl h)
  ·exact A61 hk (.inr h)
  ·exact A6y h (.inr (.inr hk))
 have self:∀ (j:Nat) (β:Eff),effs[j]? = some β→j=i→β=α:=fun j β hj e=>by subst e;exact Option.some.inj (hj.symm.trans hi)
 have beqi:∀ m,Nat.beq m i=decide (m=i):=fun m=>by
  by_cases h:m=i
  ·subst h;simp
  ·cases hb:Nat.beq m i with
   | false=>simp [h]
   | true=>exact absurd (Nat.eq_of_beq_eq_true hb) h
 refine⟨⟨fun p hp => ?_,fun p hp => ?_,fun n hp => ?_⟩,funext fun k => ?_,funext fun k => ?_⟩
 ·rw [← hat.1 p hp]
  refine A5c p.1 effs 0 env env S _ rfl (fun j β hj hw => ?_)
  by_cases hne:j=i
  ·rw [Nat.zero_add,hne,hS];simp
  ·rw [Nat.zero_add];exact wagree p.1 j β hj (A1k hw) (.inl (A83 hp)) hne
 ·rw [← hat.2.1 p hp]
  refine A3o p.1 effs 0 ob ob S _ rfl (fun j β hj hw => ?_)
  by_cases hne:j=i
  ·rw [Nat.zero_add,hne,hS];simp
  ·rw [Nat.zero_add];exact oagree p.1 j β hj (A1k hw) (.inl (A83 hp)) hne
 ·rw [← hat.2.2 n hp]
  refine A3o n effs 0 ob ob S _ rfl (fun j β hj hw => ?_)
  by_cases hne:j=i
  ·rw [Nat.zero_add,hne,hS];simp
  ·rw [Nat.zero_add];exact oagree n j β hj (A1k hw) (.inr (.inl hp)) hne
 ·by_cases hk:look α.wt k=none
  ·simp only [Eff.env,hk]
   refine A5c k effs 0 env env _ _ rfl (fun j β hj hw => ?_)
   rw [Nat.zero_add,beqi]
   by_cases hne:j=i
   ·have:=self j β hj hne;subst this;exact absurd hk hw
   ·simp [hne]
  ·have h1:runEnv (fun m=>S m || Nat.beq m i) effs 0 env k=runEnv (fun m=>decide (m<0+(i+1))) effs 0 env k:=by
    refine A5c k effs 0 env env _ _ rfl (fun j β hj hw => ?_)
    rw [Nat.zero_add,beqi]
    by_cases hne:j=i
    ·subst hne;simp
    ·rw [wagree k j β hj (A1k hw) (.inr (A1k hk)) hne]
     simp [hne];omega
   rw [h1]
   have h2:∀ (l:List Eff) (o:Nat) (i:Nat) (env:Env),l[i]? = some α→runEnv (fun m=>decide (m<o+(i+1))) l o env k=look α.wt k:=by
    intro l
    induction l with
    | nil=>intro o i env h;simp at h
    | cons β l ih =>
     intro o i env h
     cases i with
     | zero =>
      simp at h;subst h
      simp only [runEnv]
      rw [A31 _ _ _ _ (fun m hm=>by simp;omega)]
      simp only [show decide (o<o+(0+1))=true from by simp,if_true,Eff.env]
      cases hl:look β.wt k<;>simp_all
     | succ i =>
      simp only [runEnv]
      rw [show o+(i+1+1)=o+1+(i+1) from by omega]
      exact ih (o+1) i _ (by simpa using h)
   rw [h2 effs 0 i env hi]
   simp only [Eff.env]
   cases hl:look α.wt k<;>simp_all
 ·by_cases hk:look α.wo k=none
  ·simp only [Eff.obs,hk]
   refine A3o k effs 0 ob ob _ _ rfl (fun j β hj hw => ?_)
   rw [Nat.zero_add,beqi]
   by_cases hne:j=i
   ·have:=self j β hj hne;subst this;exact absurd hk hw
   ·simp [hne]
  ·have h1:runObs (fun m=>S m || Nat.beq m i) effs 0 ob k=runObs (fun m=>decide (m<0+(i+1))) effs 0 ob k:=by
    refine A3o k effs 0 ob ob _ _ rfl (fun j β hj hw => ?_)
    rw [Nat.zero_add,beqi]
    by_cases hne:j=i
    ·subst hne;simp
    ·rw [oagree k j β hj (A1k hw) (.inr (.inr (A1k hk))) hne]
     simp [hne];omega
   rw [h1]
   have h2:∀ (l:List Eff) (o:Nat) (i:Nat) (ob:Obs),l[i]? = some α→runObs (fun m=>decide (m<o+(i+1))) l o ob k=look α.wo k:=by
    intro l
    induction l with
    | nil=>intro o i ob h;simp at h
    | cons β l ih =>
     intro o i ob h
     cases i with
     | zero =>
      simp at h;subst h
      simp only [runObs]
      rw [A32 _ _ _ _ (fun m hm=>by simp;omega)]
      simp only [show decide (o<o+(0+1))=true from by simp,if_true,Eff.obs]
      cases hl:look β.wo k<;>simp_all
     | succ i =>
      simp only [runObs]
      rw [show o+(i+1+1)=o+1+(i+1) from by omega]
      exact ih (o+1) i _ (by simpa using h)
   rw [h2 effs 0 i ob hi]
   simp only [Eff.obs]
   cases hl:look α.wo k<;>simp_all
def finEnv:List Eff→Env→Env
 | [],env=>env
 | α :: l,env=>finEnv l (α.env env)
def finObs:List Eff→Obs→Obs
 | [],ob=>ob
 | α :: l,ob=>finObs l (α.obs ob)
theorem A84:∀ (l:List Eff) (i:Nat) (env:Env) (S:Nat→Bool),(∀ j,i≤j→j<i+l.length→S j=true)→runEnv S l i env=finEnv l env
 | [],_,_,_,_=>rfl
 | α :: l,i,env,S,h=>by
  simp only [runEnv,finEnv,h i (Nat.le_refl _) (by simp),if_true]
  exact A84 l (i+1) _ S (fun j h1 h2=>h j (by omega) (by simp;omega))
theorem A85:∀ (l:List Eff) (i:Nat) (ob:Obs) (S:Nat→Bool),(∀ j,i≤j→j<i+l.length→S j=true)→runObs S l i ob=finObs l ob
 | [],_,_,_,_=>rfl
 | α :: l,i,ob,S,h=>by
  simp only [runObs,finObs,h i (Nat.le_refl _) (by simp),if_true]
  exact A85 l (i+1) _ S (fun j h1 h2=>h j (by omega) (by simp;omega))
inductive OpJs (P:Program) (B:Base) (ops:Array Oper):List Oper→List Eff→Prop
 | nil:OpJs P B ops [] []
 | cons {o:Oper} {α:Eff} {os:List Oper} {l:List Eff}:OpJ P B ops o α→OpJs P B ops os l→OpJs P B ops (o :: os) (α :: l)
theorem OpJs.get:∀ {os:List Oper} {l:List Eff},OpJs P B ops os l→∀ (i:Nat) (o:Oper) (α:Eff),os[i]? = some o→l[i]? = some α→OpJ P B ops o α
 | _,_,.nil,_,_,_,h,_=>by simp at h
 | _,_,.cons h _,0,o,α,ho,hα=>by simp at ho hα;subst ho;subst hα;exact h
 | _,_,.cons _ t,i+1,o,α,ho,hα=>t.get i o α (by simpa using ho) (by simpa using hα)
theorem OpJs.length:∀ {os:List Oper} {l:List Eff},OpJs P B ops os l→l.length=os.length
 | _,_,.nil=>rfl
 | _,_,.cons _ t=>by simp [t.length]
theorem A70:∀ {os:List Oper} {l:List Eff},OpJs P B ops os l→∀ {env:Env} {ob:Obs},needsAll l env ob→∀ {a:Act} {w:World} {σ:Nat→Option Nat} {Z:Nat→Prop},
  Sim B env ob a w σ Z→(∀ a' w' σ' Z',Sim B (finEnv l env) (finObs l ob) a' w' σ' Z'→Q .normal a' w')→wpList P ops Q os a w
 | _,_,.nil,_,_,_,_,_,_,_,s,h=>h _ _ _ _ s
 | o :: os,α :: l,.cons hj t,env,ob,hn,a,w,σ,Z,s,h=>by
  refine wpList_step fun K hK => ?_
  exact hj Q env ob a w σ Z K s hn.1 fun a' w' σ' Z' s'=>hK _ _ (A70 t hn.2 s' h)
theorem A86 {listed:Array Bool} {i:Nat} (h:i∈Region.ready .any ops listed):i<ops.size∧listed.getD i true=false∧∀ o,ops[i]? = some o→∀ e∈o.after,Region.binds .any e=true→listed.getD e.on false=true:=by
 simp only [Region.ready,List.mem_filter,List.mem_range,Bool.and_eq_true,Bool.not_eq_true'] at h
 refine⟨h.1,h.2.1,fun o ho e he hb => ?_⟩
 have:=h.2.2
 rw [ho] at this
 simp only [Option.map_some,Option.getD_some] at this
 have:=Array.all_eq_true'.1 this e he
 simpa [hb] using this
theorem B0m {env:Env} {ob:Obs} (I:Nat→Obs→Prop) (hlen:effs.length=ops.size) (hjs:∀ (i:Nat) (o:Oper) (α:Eff),ops[i]? = some o→effs[i]? = some α→OpJI P B ops (I i) o α)
  (hI:∀ (i:Nat) (S:Nat→Bool),Closed ops S→S i=false→I i (runObs S effs 0 ob)) (hn:noConf ops effs=true) (hall:needsAll effs env ob)
  (hQ:∀ a' w' σ' Z',Sim B (finEnv effs env) (finObs effs ob) a' w' σ' Z'→Q .normal a' w') :
  ∀ (fuel:Nat) (listed:Array Bool),listed.size=ops.size→((List.range ops.size).filter fun i => !listed.getD i true).length≤fuel→Closed ops (fun i=>listed.getD i false) →
   ∀ (a:Act) (w:World) (σ:Nat→Option Nat) (Z:Nat→Prop),Sim B (runEnv (fun i=>listed.getD i false) effs 0 env) (runObs (fun i=>listed.getD i false) effs 0 ob) a w σ Z →
   wpAny P .any ops Q fuel listed a w:=by
 have hforth:forth ops=true:=by simp only [noConf,Bool.and_eq_true] at hn;exact hn.1.1
 -- where nobody is ready all have run
 have done:∀ (listed:Array Bool),listed.size=ops.size→Region.ready .any ops listed=[]→∀ j,j<ops.size→listed.getD j false=true:=by
  intro listed hs hr j
  induction j using Nat.strongRecOn with
  | ind j ih =>
   intro hj
   cases hg:listed.getD j false with
   | true=>rfl
   | false =>
    have hmem:j∈Region.ready .any ops listed:=by
     simp only [Region.ready,List.mem_filter,List.mem_range,Bool.and_eq_true,Bool.not_eq_true']
     have hj':j<listed.size:=by omega
     refine⟨hj,by simpa [Array.getD,hj'] using hg,?_⟩
     rw [Array.getElem?_eq_getElem hj]
     simp only [Option.map_some,Option.getD_some]
     refine Array.all_eq_true'.2 fun e he => ?_
     cases hb:Region.binds .any e with
     | false=>simp
     | true =>
      simp only [forth,List.all_eq_true,List.mem_range] at hforth
      have:=hforth j hj
      rw [Array.getElem?_eq_getElem hj] at this
      simp only [Option.map_some,Option.getD_some] at this
      have:=Array.all_eq_true'.1 this e he
      rw [hb] at this
      have hlt:e.on<j:=by simpa using this
      simpa using ih e.on hlt (by omega)
    rw [hr] at hmem
    cases hmem
 have fin:∀ (listed:Array Bool),listed.size=ops.size→Region.ready .any ops listed=[]→∀ a w σ Z,
   Sim B (runEnv (fun i=>listed.getD i false) effs 0 env) (runObs (fun i=>listed.getD i false) effs 0 ob) a w σ Z→Q .normal a w:=by
  intro listed hs hr a w σ Z s
  have hd:=done listed hs hr
  rw [A84 effs 0 env _ (fun j _ hj=>hd j (by omega)),A85 effs 0 ob _ (fun j _ hj=>hd j (by omega))] at s
  exact hQ _ _ _ _ s
 intro fuel
 induction fuel with
 | zero =>
  intro listed hs hf hc a w σ Z s
  have hr:Region.ready .any ops listed=[]:=by
   rw [List.eq_nil_iff_forall_not_mem]
   intro i hi
   obtain⟨h1,h2,_⟩:=A86 hi
   have hmem:i∈(List.range ops.size).filter fun i => !listed.getD i true:=by
    rw [List.mem_filter];exact⟨by simpa using h1,by rw [h2];rfl⟩
   have:=List.length_pos_of_mem hmem
   omega
  exact⟨hr,fin listed hs hr a w σ Z s⟩
 | succ fuel ih =>
  intro listed hs hf hc a w σ Z s
  refine⟨fun hr=>fin listed hs hr a w σ Z s,fun i hi => ?_⟩
  obtain⟨h1,h2,h3⟩:=A86 hi
  have hi':i<listed.size:=by omega
  have hl:i<effs.length:=by omega
  have ho:ops[i]? = some ops[i]:=Array.getElem?_eq_getElem h1
  have hα:effs[i]? = some effs[i]:=List.getElem?_eq_getElem hl
  have hS:(fun i=>listed.getD i false) i=false:=by simpa [Array.getD,hi'] using h2
  have hnew:(fun m=>(listed.setIfInBounds i true).getD m false)=fun m=>listed.getD m false || Nat.beq m i:=by
   funext m
   by_cases hm:m=i
   ·subst hm;simp [Array.getD,hi']
   ·have:Nat.beq m i=false:=by cases hb:Nat.beq m i with | false=>rfl | true=>exact absurd (Nat.eq_of_beq_eq_true hb) hm
    rw [this,Bool.or_false]
    simp only [Array.getD_eq_getD_getElem?]
    rw [Array.getElem?_setIfInBounds_ne (Ne.symm hm)]
  have hc':Closed ops (fun m=>(listed.setIfInBounds i true).getD m false):=by
   rw [hnew]
   intro j o hj hS' e he hb
   simp only [Bool.or_eq_true] at hS' ⊢
   rcases hS' with hS' | hS'
   ·exact .inl (hc j o hj hS' e he hb)
   ·have:=Nat.eq_of_beq_eq_true hS'
    subst this
    exact .inl (h3 o hj e he hb)
  have hcount:((List.range ops.size).filter fun m => !(listed.setIfInBounds i true).getD m true).length≤fuel:=by
   have hsub:(List.range ops.size).filter (fun m => !(listed.setIfInBounds i true).getD m true)=((List.range ops.size).filter fun m => !listed.getD m true).filter fun m=>m != i:=by
    rw [List.filter_filter]
    refine List.filter_congr fun m hm => ?_
    by_cases he:m=i
    ·subst he;simp [Array.getD,hi']
    ·have hbne:(m != i)=true:=by simp [he]
     rw [hbne,Bool.true_and]
     simp only [Array.getD_eq_getD_getElem?]
     rw [Array.getElem?_setIfInBounds_ne (Ne.symm he)]
   rw [hsub]
   have hmem:i∈(List.range ops.size).filter fun m => !listed.getD m true:=by rw [List.mem_filter];exact⟨by simpa using h1,by rw [h2];rfl⟩
   have hlt:=List.length_filter_lt_length_iff_exists (l:=(List.range ops.size).filter fun m => !listed.getD m true) (p:=fun m=>m != i) |>.2 ⟨i,hmem,by simp⟩
   omega
  have hready:∀ (m:Nat) (γ:Eff),effs[m]? = some γ→m<i→indep γ effs[i]=false→(fun i=>listed.getD i false) m=true:=by
   intro m γ hm hlt hx
   have hT:Closed ops (fun m=>listed.getD m false || Nat.beq m i):=by rw [← hnew];exact hc'
   have:=order hT hn hlt hm hα hx (by simp)
   simp only [Bool.or_eq_true] at this
   rcases this with this | this
   ·exact this
   ·have:=Nat.eq_of_beq_eq_true this;omega
  obtain⟨g1,g2,g3⟩:=B5e hc hn hall hα hS hready
  have hj:=hjs i ops[i] effs[i] ho hα
  have hstep:=hj Q _ _ a w σ Z (wpAny P .any ops Q fuel (listed.setIfInBounds i true)) (hI i _ hc hS) s g1 (fun a' w' σ' Z' s'=>by
   refine ih (listed.setIfInBounds i true) (by simpa using hs) hcount hc' a' w' σ' Z' ?_
   rw [hnew,g2,g3]
   exact s')
  simp only [wpOp,ho]
  split
  ·rename_i hw;rw [if_pos hw] at hstep;exact .inl hstep
  ·rename_i hw;rw [if_neg hw] at hstep;exact hstep
theorem B1t (hjs:OpJs P B ops ops.toList effs) (hn:noConf ops effs=true) {env:Env} {ob:Obs} (hall:needsAll effs env ob)
  (hQ:∀ a' w' σ' Z',Sim B (finEnv effs env) (finObs effs ob) a' w' σ' Z'→Q .normal a' w') :
  ∀ (fuel:Nat) (listed:Array Bool),listed.size=ops.size→((List.range ops.size).filter fun i => !listed.getD i true).length≤fuel→Closed ops (fun i=>listed.getD i false) →
   ∀ (a:Act) (w:World) (σ:Nat→Option Nat) (Z:Nat→Prop),Sim B (runEnv (fun i=>listed.getD i false) effs 0 env) (runObs (fun i=>listed.getD i false) effs 0 ob) a w σ Z →
   wpAny P .any ops Q fuel listed a w :=
 B0m (fun _ _=>True) (by rw [hjs.length,Array.length_toList]) (fun i o α ho hα=>(hjs.get i o α (by simpa using ho) hα).toI) (fun _ _ _ _=>trivial) hn hall hQ
end
end Go.Vc
