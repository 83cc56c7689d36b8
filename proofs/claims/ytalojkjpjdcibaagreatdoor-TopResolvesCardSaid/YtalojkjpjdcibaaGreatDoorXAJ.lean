/- Part of the proof that 'TopResolves' holds of every input: no condition. -/
import Derived.Test.YtalojkjpjdcibaaGreatDoorXAI
import Derived.Test.YtalojkjpjdcibaaGreatDoorXAE
import Derived.Shelf.Strings.OnBuilder
import Derived.Shelf.Strings.SplitShaped
import Derived.Shelf.Strings.Shaped
import Derived.Shelf.Strconv.Itoa3
import Derived.Shelf.Strconv.AtoiAll
import Derived.Shelf.Bytes.SlJoin
import Derived.Test.YtalojkjpjdcibaaGreatDoorChecked
import Derived.KernelRfl
namespace Go.Vc
open Go

structure TplH where
  kt:List Nat:=[]
  vt:List (Nat×TV):=[]
  ko:List Nat:=[]
  vo:List (Nat×TOb):=[]
  cs:List Ty:=[]
  dn:Nat:=0
inductive H
  | o
  | s (a b:H)
  | j (T:TplH) (h:H)
  | l (T:TplH) (X:List (Exit×TplH)) (h:H)
  | i (fr ims:List Nat)
  | p (g:Nat) (a b:H)
  | q (n:Nat) (fr ims:List Nat)
def TV.mp (f:Nat→Nat):TV→TV
  | d c i=>d c (f i)
  | eptr n sz k i o p=>eptr n sz k (f i) o p
  | aptr n o p k i sz=>aptr n o p k (f i) sz
  | dptr c i=>dptr c (f i)
  | sref n c j=>sref n c (f j)
  | qref n j=>qref n (f j)
  | qptr n k i=>qptr n k (f i)
  | func g caps=>func g (caps.mp f)
  | st fs=>st (fs.mp f)
  | tup xs=>tup (xs.mp f)
  | opt g w x=>opt (f g) w (x.mp f)
  | alt g x y=>alt (f g) (x.mp f) (y.mp f)
  | cons a b=>cons (a.mp f) (b.mp f)
  | x=>x
def TOb.mp (f:Nat→Nat):TOb→TOb
  | box t x=>box t (x.mp f)
  | row e c i=>row e c (f i)
  | map kc vc i=>map kc vc (f i)
  | glob g c i=>glob g c (f i)
  | vrow e c j pos x=>vrow e c (f j) pos (x.mp f)
  | qrow e j=>qrow e (f j)
def H.fst:H→H
  | .s a _=>a
  | _ => .o
def H.snd:H→H
  | .s _ b=>b
  | _ => .o
section
variable {A:Alg}
def keepE (S:St A):List Nat→List (Nat×TV)
  | []=>[]
  | t :: l=>match look S.E t with
    | some x=>(t,x) :: keepE S l
    | none=>keepE S l
def keepO (S:St A):List Nat→List (Nat×TOb)
  | []=>[]
  | n :: l=>match look S.O n with
    | some (some x)=>(n,x) :: keepO S l
    | _=>keepO S l
def mkT (S:St A) (h:TplH):Tpl :=
  let f:=fun i=>bif Nat.blt i 1000000 then S.nl+i else i-1000000
  { E:=(h.vt.map fun p=>(p.1,p.2.mp f))++keepE S h.kt,O:=(h.vo.map fun p=>(p.1,p.2.mp f))++keepO S h.ko,base:=S.nl,cs:=h.cs,nx:=S.nx+h.dn }
def exB:Exit→Exit→Bool
  | .normal,.normal=>true
  | .ret,.ret=>true
  | .exit i,.exit j=>Nat.beq i j
  | _,_=>false
def jw (h:H) (S:St A) (r:Ty) (k:Exit→St A→A.M r) (body:H→(Exit→St A→A.M r)→A.M r):A.M r :=
  match h with
  | .j T h'=>let T0:=mkT S T
    bif T0.good then A.jn (tupT T0.cs) r (fun m=>k .normal (T0.inst S.L m)) fun t=>body h' fun e S'=>match e with
      | .normal=>mtch S' T0 r t
      | e=>k e S'
    else A.fail r "join"
  | h=>body h k
def exT (S:St A):List (Exit×TplH)→Ty
  | [] => .nil
  | [(_,T)]=>tupT T.cs
  | (_,T) :: q :: l => .sum (tupT T.cs) (exT S (q :: l))
def exM (S:St A) (e:Exit) (S':St A) (r:Ty):(X:List (Exit×TplH))→(A.I (exT S X)→A.M r)→A.M r
  | [],_=>A.fail r "way out"
  | [(e',T)],k=>bif exB e e'&&(mkT S T).good then mtch S' (mkT S T) r k else A.fail r "way out"
  | (e',T) :: q :: l,k=>bif exB e e'&&(mkT S T).good then mtch S' (mkT S T) r (fun v=>k (A.inl (tupT T.cs) (exT S (q :: l)) v)) else exM S e S' r (q :: l) fun v=>k (A.inr (tupT T.cs) (exT S (q :: l)) v)
def exK (S:St A) (r:Ty) (k:Exit→St A→A.M r):(X:List (Exit×TplH))→A.I (exT S X)→A.M r
  | [],_=>A.fail r "way out"
  | [(e,T)],v=>k e ((mkT S T).inst S.L v)
  | (e,T) :: q :: l,v=>A.case (tupT T.cs) (exT S (q :: l)) r v (fun a=>k e ((mkT S T).inst S.L a)) fun b=>exK S r k (q :: l) b
def St.frzs (S:St A):List Nat→Option (St A)
  | []=>some S
  | n :: l=>match S.act (.frz n) with
    | some S'=>S'.frzs l
    | none=>none
def regH (P:Program) (Γ:List (Sg A)) (N:Nat) (ops:List Oper) (draw:Bool) (r:Ty) (k:Exit→St A→A.M r):H→St A→A.M r
  | .p g a b,S=>A.ite r (S.lv .bool g) (regH P Γ N ops draw r k a (S.rs g true)) (regH P Γ N ops draw r k b (S.rs g false))
  | .i fr ims,S=>match S.frzs fr with
    | some S'=>runReg P Γ N ops draw ims r S' fun S''=>k .normal S''
    | none=>A.fail r "freeze"
  | .q n fr ims,S=>match S.frzs fr with
    | some S'=>bif draw then A.fail r "draws" else runQ P Γ N ops.toArray ims r ops S' fun S''=>match S''.toQ n with
      | some S3=>k .normal S3
      | none=>A.fail r "queue"
    | none=>A.fail r "freeze"
  | _,S=>runReg P Γ N ops draw [] r S fun S''=>k .normal S''
def denC (P:Program) (Γ:List (Sg A)) (N:Nat):Code→H→St A→(r:Ty)→(Exit→St A→A.M r)→A.M r
  | .skip,_,S,_,k=>k .normal S
  | .ret,_,S,_,k=>k .ret S
  | .exit id,_,S,_,k=>k (.exit id) S
  | .seq a b,h,S,r,k=>jw h.fst S r (fun e S'=>match e with
      | .normal=>jw h.snd S' r k fun h k=>denC P Γ N b h S' r k
      | e=>k e S') fun h k=>denC P Γ N a h S r k
  | .cond (.tmp t) a b,h,S,r,k=>match look S.E t with
    | some (.kb true)=>jw h.fst S r k fun h k=>denC P Γ N a h S r k
    | some (.kb false)=>jw h.snd S r k fun h k=>denC P Γ N b h S r k
    | some (.d .bool i)=>A.ite r (S.lv .bool i) (jw h.fst (S.kn i true) r k fun h k=>denC P Γ N a h (S.kn i true) r k) (jw h.snd (S.kn i false) r k fun h k=>denC P Γ N b h (S.kn i false) r k)
    | some (.alt i (.kb q) (.cst 4))=>A.ite r (S.lv .bool i) (match q with
        | true=>jw h.fst S r k fun h k=>denC P Γ N a h S r k
        | false=>jw h.snd S r k fun h k=>denC P Γ N b h S r k) (A.both r (jw h.fst S r k fun h k=>denC P Γ N a h S r k) (jw h.snd S r k fun h k=>denC P Γ N b h S r k))
    | some (.cst 4)=>A.both r (jw h.fst S r k fun h k=>denC P Γ N a h S r k) (jw h.snd S r k fun h k=>denC P Γ N b h S r k)
    | _=>A.fail r "cond"
  | .cond (.const (.bool true)) a _,h,S,r,k=>jw h.fst S r k fun h k=>denC P Γ N a h S r k
  | .cond (.const (.bool false)) _ b,h,S,r,k=>jw h.snd S r k fun h k=>denC P Γ N b h S r k
  | .block id c,h,S,r,k=>jw h.fst S r (fun e S'=>match e with
      | .exit j=>bif Nat.beq j id then k .normal S' else k (.exit j) S'
      | e=>k e S') fun h k=>denC P Γ N c h S r k
  | .loop c,.l T X hb,S,r,k =>
    let T0:=mkT S T
    bif T0.good then mtch S T0 r fun s0 =>
      A.bind (exT S X) r (A.loop (tupT T0.cs) (exT S X) s0 fun s =>
        jw hb (T0.inst S.L s) (.sum (exT S X) (tupT T0.cs)) (fun e S'=>match e with
          | .normal=>mtch S' T0 (.sum (exT S X) (tupT T0.cs)) fun s'=>A.ret (.sum (exT S X) (tupT T0.cs)) (A.inr (exT S X) (tupT T0.cs) s')
          | e=>exM S e S' (.sum (exT S X) (tupT T0.cs)) X fun v=>A.ret (.sum (exT S X) (tupT T0.cs)) (A.inl (exT S X) (tupT T0.cs) v)) fun h k=>denC P Γ N c h (T0.inst S.L s) (.sum (exT S X) (tupT T0.cs)) k)
        fun x=>exK S r k X x
    else A.fail r "loop"
  | .region _ ops draw,h,S,r,k=>regH P Γ N ops.toList draw r k h S
  | _,_,_,r,_=>A.fail r "code"
end

section
variable {P:Program} {B:Base} {N:Nat}
theorem A0j {T:Tpl} {L0:List (Nat×Lf typ)} {x:(tupT T.cs).T} (h:T.good=true):(T.inst (A:=typ) L0 x).ok:=by
  unfold Tpl.good at h;rw [Bool.and_eq_true] at h;exact⟨h.1,h.2⟩
theorem X4 {S:St typ} {h:TplH} {x:(tupT (mkT S h).cs).T}:Ext2 S ((mkT S h).inst (A:=typ) S.L x) :=
  ⟨Nat.le_add_right _ _,fun c i hi=>W1 _ _ _ _ _ hi⟩
theorem AWp.condU {E:EL} {O:OL} {Q:Exit→EL→OL→Prop} {t:Nat} {x y:Code} (hc:look E t=some (.sat (unkP 0))) (h1:AWp P B x Q E O) (h2:AWp P B y Q E O):AWp P B (.cond (.tmp t) x y) Q E O:=fun a w σ Z s=>by
  have hr:=Opd.tmp t (.sat (unkP 0)) B (look E) (look O) a w σ Z s (fun p hp=>by simp at hp;subst hp;exact hc);obtain⟨v,hv,⟨b,hb⟩,_⟩:=And.left hr;have hv:a.eval (.tmp t) = .bool b:=by rw [← hb];simpa using hv
  exact wp_cond_split hv (fun _=>h1 a w σ Z s) (fun _=>h2 a w σ Z s)
def KOk (S0:St typ) (r:Ty) (y:r.T) (k:Exit→St typ→Option r.T) (Q:Exit→EL→OL→Prop):Prop :=
  ∀ [Hid] e S',S'.ok→Ext2 S0 S'→k e S'=some y→Q e S'.e S'.o
theorem KOk.mono {S0 S1:St typ} {r:Ty} {y:r.T} {k:Exit→St typ→Option r.T} {Q:Exit→EL→OL→Prop} (h:KOk S0 r y k Q) (hx:Ext2 S0 S1):KOk S1 r y k Q:=@fun i e S' ok x hk => @h i e S' ok (hx.trans x) hk
def Soft (B:Base) (Q:Exit→EL→OL→Prop):Prop:=∀ e E E' O O',Mat B E O E' O'→Q e E' O'→Q e E O
theorem B12 {e e':Exit} (h:exB e e'=true):e=e':=by
  unfold exB at h;split at h
  · rfl
  · rfl
  · rw [Nat.eq_of_beq_eq_true h]
  · cases h
theorem B13 [Hid] (hB:B.ok) {S S':St typ} {e:Exit} {r:Ty} {y:r.T} (ok:S'.ok) (hx:Ext2 S S'):∀ {X:List (Exit×TplH)} {k:(exT S X).T→Option r.T},exM (A:=typ) S e S' r X k=some y →
    ∃ v,k v=some y∧∀ {r':Ty} {y':r'.T} {kk:Exit→St typ→Option r'.T} {Q:Exit→EL→OL→Prop},Soft B Q→KOk S r' y' kk Q→exK (A:=typ) S r' kk X v=some y'→Q e S'.e S'.o
  | [],k,h=>by cases h
  | [(e',T)],k,h=>by
    simp only [exM] at h;cases hb:exB e e'&&(mkT S T).good with
    | false=>rw [hb] at h;cases h
    | true =>
      rw [hb,cond_true] at h;rw [Bool.and_eq_true] at hb;obtain⟨x,h1,h2⟩:=S6 hB ok hx (Nat.le_refl _) h;refine⟨x,h1,fun {r' y' kk Q} hs hk hy => ?_⟩;have:=B12 hb.1;subst this;exact hs _ _ _ _ _ h2 (hk _ _ (A0j hb.2) X4 hy)
  | (e',T) :: q :: l,k,h=>by
    simp only [exM] at h;cases hb:exB e e'&&(mkT S T).good with
    | false =>
      rw [hb,cond_false] at h;obtain⟨v,h1,h2⟩:=B13 hB ok hx h;exact⟨.inr v,h1,fun {r' y' kk Q} hs hk hy=>h2 hs hk hy⟩
    | true =>
      rw [hb,cond_true] at h;rw [Bool.and_eq_true] at hb;obtain⟨x,h1,h2⟩:=S6 hB ok hx (Nat.le_refl _) h;refine⟨.inl x,h1,fun {r' y' kk Q} hs hk hy => ?_⟩;have:=B12 hb.1;subst this;exact hs _ _ _ _ _ h2 (hk _ _ (A0j hb.2) X4 hy)
theorem A37 [Hid] (hB:B.ok):∀ {l:List Nat} {S S':St typ},S.ok→S.frzs l=some S'→Mat B S.e S.o S'.e S'.o∧S'.ok∧Ext2 S S'
  | [],S,S',hS,h=>by simp only [St.frzs,Option.some.injEq] at h;subst h;exact⟨Mat.refl,hS,Ext2.refl _⟩
  | a :: l,S,S',hS,h=>by
    simp only [St.frzs] at h;split at h
    · rename_i S1 h1;obtain⟨m1,k1,x1⟩:=A65 hB hS h1;obtain⟨m2,k2,x2⟩:=A37 hB k1 h;exact⟨m1.trans m2,k2,x1.trans x2⟩
    · cases h
theorem B14 {y:Code} {Q:Exit→EL→OL→Prop} (h:Soft B Q):Soft B (seqQ P B y Q):=fun e E E' O O' m hq=>by
  cases e with
  | normal=>exact AWp.ghost m hq
  | _=>exact h _ _ _ _ _ m hq
theorem B15 {id:Nat} {Q:Exit→EL→OL→Prop} (h:Soft B Q):Soft B (blkQ id Q):=fun e E E' O O' m hq=>by
  cases e with
  | exit j =>
    simp only [blkQ] at hq ⊢;split at hq
    · rename_i e;rw [if_pos e];exact h _ _ _ _ _ m hq
    · rename_i e;rw [if_neg e];exact h _ _ _ _ _ m hq
  | _=>exact h _ _ _ _ _ m hq
def DenP (P:Program) (B:Base) (Γ:List (Sg typ)) (N:Nat) (c:Code):Prop:=∀ [Hid] {h:H} {S:St typ} {r:Ty} {y:r.T} {k:Exit→St typ→Option r.T} {Q:Exit→EL→OL→Prop},
    S.ok→Soft B Q→KOk S r y k Q→denC (A:=typ) P Γ N c h S r k=some y→AWp P B c Q S.e S.o
theorem jwS [Hid] {Γ:List (Sg typ)} (hB:B.ok) {c:Code} (ih:DenP P B Γ N c) {h:H} {S:St typ} {r:Ty} {y:r.T} {k:Exit→St typ→Option r.T} {Q:Exit→EL→OL→Prop} (ok:S.ok) (hs:Soft B Q) (hk:KOk S r y k Q)
    (hy:jw (A:=typ) h S r k (fun h k=>denC (A:=typ) P Γ N c h S r k)=some y):AWp P B c Q S.e S.o:=by
  unfold jw at hy;split at hy
  · rename_i T h';simp only at hy;cases hg:(mkT S T).good with
    | false=>rw [hg] at hy;cases hy
    | true =>
      rw [hg,cond_true] at hy;refine AWp.cutG hy (fun(i:Hid) m => @St.e i ((mkT S T).inst (A:=typ) S.L m)) (fun(i:Hid) m => @St.o i ((mkT S T).inst (A:=typ) S.L m)) (fun i m hm E O mat => ?_) (fun j hj hbody => ?_)
      · exact hs _ _ _ _ _ mat (hk _ _ (A0j hg) X4 hm)
      · refine ih ok hs (@fun i e S' ok hx hk' => ?_) hbody;split at hk'
        · obtain⟨x,h1,h2⟩:=S6 hB ok hx (Nat.le_refl _) hk';exact hj i x h1 _ _ h2
        · exact hk _ _ ok hx hk'
  · exact ih ok hs hk hy
theorem B2y {Γ:List (Sg typ)} (hΓ:∀ g∈Γ,COk P g) (hB:B.ok) (hN:B.N=N) (hm:P.follows .mixedOrders=true):∀ c:Code,DenP P B Γ N c:=by
  intro c;induction c with
  | skip=>intro i h S r y k Q ok hs hk hy;exact AWp.skip (hk _ _ ok (Ext2.refl _) hy)
  | ret=>intro i h S r y k Q ok hs hk hy;exact AWp.ret (hk _ _ ok (Ext2.refl _) hy)
  | exit id=>intro i h S r y k Q ok hs hk hy;exact AWp.exit (hk _ _ ok (Ext2.refl _) hy)
  | seq a b iha ihb =>
    intro i h S r y k Q ok hs hk hy;unfold denC at hy;refine AWp.seq (jwS hB iha ok (B14 hs) (@fun _ e S' ok' hx hk' => ?_) hy);cases e with
    | normal=>exact jwS hB ihb ok' hs (hk.mono hx) hk'
    | _=>exact hk _ _ ok' hx hk'
  | cond x a b iha ihb =>
    intro i h S r y k Q ok hs hk hy;cases x with
    | tmp t =>
      unfold denC at hy;split at hy
      · rename_i ht;exact AWp.cond (b:=true) (by rw [F7,ht];rfl) (fun _=>jwS hB iha ok hs hk hy) (fun h=>by cases h)
      · rename_i ht;exact AWp.cond (b:=false) (by rw [F7,ht];rfl) (fun h=>by cases h) (fun _=>jwS hB ihb ok hs hk hy)
      · rename_i i ht;have kn:∀ {b:Bool},S.lv .bool i=b→(S.kn i b).ok∧(S.kn i b).e=S.e∧(S.kn i b).o=S.o∧KOk (S.kn i b) r y k Q:=fun {b} hb=>⟨B45 ok,kn_e hb,rfl,hk.mono (S1:=S.kn i b) ⟨Nat.le_refl _,fun _ _ _=>rfl⟩⟩;refine AWp.cond (b:=S.lv .bool i) (by rw [F7,ht];rfl) (fun hb => ?_) (fun hb => ?_)
        · obtain⟨k1,k2,k3,k4⟩:=kn hb;have:=jwS hB iha k1 hs k4 (A6k hb hy);rw [k2,k3] at this;exact this
        · obtain⟨k1,k2,k3,k4⟩:=kn hb;have:=jwS hB ihb k1 hs k4 (A6l hb hy);rw [k2,k3] at this;exact this
      · rename_i i q ht;have hv:(TV.alt i (.kb q) (.cst 4)).v S.lv = @cond V (S.lv .bool i) (.d (.bool q)) (.sat (unkP 0)):=rfl;cases hb:(S.lv .bool i:Bool) with
        | true =>
          have hy:=A6k hb hy;cases q with
          | true=>exact AWp.cond (b:=true) (by rw [F7,ht,Option.map_some,hv,hb];rfl) (fun _=>jwS hB iha ok hs hk hy) (fun h=>by cases h)
          | false=>exact AWp.cond (b:=false) (by rw [F7,ht,Option.map_some,hv,hb];rfl) (fun h=>by cases h) (fun _=>jwS hB ihb ok hs hk hy)
        | false =>
          obtain⟨h1,h2⟩:=Ty.A1z (A6l hb hy);exact AWp.condU (by rw [F7,ht,Option.map_some,hv,hb];rfl) (jwS hB iha ok hs hk h1) (jwS hB ihb ok hs hk h2)
      · rename_i ht;obtain⟨h1,h2⟩:=Ty.A1z hy;exact AWp.condU (by rw [F7,ht];rfl) (jwS hB iha ok hs hk h1) (jwS hB ihb ok hs hk h2)
      · cases hy
    | const v =>
      cases v with
      | bool q =>
        cases q with
        | true=>exact fun ac w σ Z s=>wp_cond_split (show ac.eval (.const (.bool true)) = .bool true from rfl) (fun _=>jwS hB iha ok hs hk hy ac w σ Z s) (fun h=>by cases h)
        | false=>exact fun ac w σ Z s=>wp_cond_split (show ac.eval (.const (.bool false)) = .bool false from rfl) (fun h=>by cases h) (fun _=>jwS hB ihb ok hs hk hy ac w σ Z s)
      | _=>cases hy
    | _=>cases hy
  | block id c ih =>
    intro i h S r y k Q ok hs hk hy;unfold denC at hy;refine AWp.block (jwS hB ih ok (B15 hs) (@fun _ e S' ok' hx hk' => ?_) hy);cases e with
    | exit j =>
      simp only at hk';cases hj:Nat.beq j id with
      | true =>
        rw [hj] at hk';have:=Nat.eq_of_beq_eq_true hj;subst this;simp only [blkQ,if_true];exact hk _ _ ok' hx hk'
      | false =>
        rw [hj] at hk';have:j≠id:=fun e=>by subst e;simp at hj
        simp only [blkQ,if_neg this];exact hk _ _ ok' hx hk'
    | _=>exact hk _ _ ok' hx hk'
  | loop c ih =>
    intro i h S r y k Q ok hs hk hy;cases h with
    | l T X hb =>
      unfold denC at hy;simp only at hy;cases hg:(mkT S T).good with
      | false=>rw [hg] at hy;cases hy
      | true =>
        rw [hg,cond_true] at hy;obtain⟨s0,h1,h2⟩:=S6 hB ok (Ext2.refl _) (Nat.le_refl _) hy;obtain⟨x,h3,h4⟩:=bindS h1;refine AWp.loopG _ (fun(i:Hid) s => @St.e i ((mkT S T).inst (A:=typ) S.L s)) (fun(i:Hid) s => @St.o i ((mkT S T).inst (A:=typ) S.L s)) (fun v e E' O'=>exK (A:=typ) S r k X v=some y→Q e E' O') (B01 h3) (fun i s z hz => ?_) (fun e E' O' hq=>hq h4) i h2;refine jwS (r:=.sum (exT S X) (tupT T.cs)) hB ih (A0j hg) ?_ ?_ hz
        · intro e E E' O O' m hq;cases z with
          | inl v=>exact⟨hq.1,fun hv=>hs _ _ _ _ _ m (hq.2 hv)⟩
          | inr s'=>exact⟨hq.1,hq.2.imp fun _ h=>m.trans h⟩
        · intro i e S' ok' hx hk';have hx':Ext2 S S':=X4.trans hx;cases e with
          | normal =>
            obtain⟨s',h5,h6⟩:=S6 hB ok' hx' (Nat.le_refl _) hk';cases h5;exact⟨rfl,i,h6⟩
          | _ =>
            obtain⟨v,h5,h6⟩:=B13 hB ok' hx' hk';cases h5;exact⟨by simp,fun hv=>h6 hs hk hv⟩
    | _=>cases hy
  | region id ops draw =>
    intro i h S r y k Q ok hs hk hy;unfold denC at hy;obtain⟨ops⟩:=ops;have key:∀ (h:H) (S:St typ),S.ok→KOk S r y k Q→regH (A:=typ) P Γ N ops draw r k h S=some y→AWp P B (.region id ops.toArray draw) Q S.e S.o:=by
      intro h;induction h with
      | p g a b iha ihb =>
        intro S ok hk hy;have kn:∀ {b:Bool},S.lv .bool g=b→(S.rs g b).ok∧(S.rs g b).e=S.e∧(S.rs g b).o=S.o∧KOk (S.rs g b) r y k Q:=fun {b} hb=>⟨B5z ok,rs_e hb,rs_o hb,hk.mono (S1:=S.rs g b) ⟨Nat.le_refl _,fun _ _ _=>rfl⟩⟩;unfold regH at hy;cases hb:S.lv .bool g with
        | true =>
          obtain⟨k1,k2,k3,k4⟩:=kn hb;have:=iha _ k1 k4 (A6k hb hy);rw [k2,k3] at this;exact this
        | false =>
          obtain⟨k1,k2,k3,k4⟩:=kn hb;have:=ihb _ k1 k4 (A6l hb hy);rw [k2,k3] at this;exact this
      | i fr ims =>
        intro S ok hk hy;unfold regH at hy;split at hy
        · rename_i S' hf;obtain⟨m1,k1,x1⟩:=A37 hB ok hf;exact AWp.ghost m1 (A2c hΓ hB hN hm k1 hy (id:=id) (Q:=Q) fun S'' ok'' hx hk'=>hk _ _ ok'' (x1.trans hx) hk')
        · cases hy
      | q n fr ims =>
        intro S ok hk hy;unfold regH at hy;split at hy
        · rename_i S' hf;obtain⟨m1,k1,x1⟩:=A37 hB ok hf;cases draw with
          | true=>cases hy
          | false =>
            rw [cond_false] at hy;refine AWp.ghost m1 (AWp.ofLW (A0i hΓ hB hN k1 (@fun _ S'' ok'' hx hk' => ?_) hy));split at hk'
            · rename_i S3 h3;obtain⟨i',m2,k2,x2⟩:=B4p (B:=B) ok'' h3;exact hs _ _ _ _ _ m2 (@hk i' _ _ k2 (x1.trans (hx.trans x2)) hk')
            · cases hk'
        · cases hy
      | _=>intro S ok hk hy;exact A2c hΓ hB hN hm ok hy (id:=id) (Q:=Q) fun S'' ok'' hx hk'=>hk _ _ ok'' hx hk'
    exact key h S ok hk hy
  | _=>intro i h S r y k Q ok hs hk hy;simp [denC] at hy
end
end Go.Vc
namespace Go.Vc
open Go

def TOb.beq:TOb→TOb→Bool
  | .box t x,.box t' x'=>Nat.beq t t'&&x.beq x'
  | .row e c i,.row e' c' i'=>Nat.beq e e'&&decide (c=c')&&Nat.beq i i'
  | .map c e i,.map c' e' i'=>decide (e=e')&&decide (c=c')&&Nat.beq i i'
  | .glob e c i,.glob e' c' i'=>Nat.beq e e'&&decide (c=c')&&Nat.beq i i'
  | .qrow e i,.qrow e' i'=>Nat.beq e e'&&Nat.beq i i'
  | .vrow e c i q x,.vrow e' c' i' q' x'=>Nat.beq e e'&&decide (c=c')&&Nat.beq i i'&&(Nat.beq q q'&&x.beq x')
  | _,_=>false
theorem TOb.G9 {x y:TOb} (h:x.beq y=true):x=y:=by
  cases x<;>cases y<;>simp only [TOb.beq,Bool.false_eq_true,Bool.and_eq_true,decide_eq_true_eq] at h
  · rw [Nat.eq_of_beq_eq_true h.1,TV.G9 h.2]
  · rw [Nat.eq_of_beq_eq_true h.1.1,h.1.2,Nat.eq_of_beq_eq_true h.2]
  · rw [h.1.1,h.1.2,Nat.eq_of_beq_eq_true h.2]
  · rw [Nat.eq_of_beq_eq_true h.1.1,h.1.2,Nat.eq_of_beq_eq_true h.2]
  · rw [Nat.eq_of_beq_eq_true h.1.1.1,h.1.1.2,Nat.eq_of_beq_eq_true h.1.2,Nat.eq_of_beq_eq_true h.2.1,TV.G9 h.2.2]
  · rw [Nat.eq_of_beq_eq_true h.1,Nat.eq_of_beq_eq_true h.2]
section
variable {A:Alg}
def argT:Nat→List TV→List (Nat×TV)
  | _,[]=>[]
  | k,v :: vs=>(k,v) :: argT (k+1) vs
def resL (res:TV) (n:Nat):List TV:=if n=1 then [res] else match res with
  | .tup l=>l.toL
  | _=>[]
def resE:List ResultVar→List TV→Nat→List (Nat×TV)×List (Nat×TOb)
  | .tmp t :: rs,v :: vs,k=>((t,v) :: (resE rs vs k).1,(resE rs vs k).2)
  | .cell a ty :: rs,v :: vs,k=>((a,.ptr k 0 []) :: (resE rs vs (k+1)).1,(k,.box ty v) :: (resE rs vs (k+1)).2)
  | _,_,_=>([],[])
def liveO:List (Nat×Option TOb)→List (Nat×TOb)
  | []=>[]
  | (n,some o) :: l=>(n,o) :: liveO l
  | (_,none) :: l=>liveO l
def retT (rs:List ResultVar) (g:Sg A):Tpl :=
  { E:=(resE rs (resL g.res rs.length) 980000).1,O:=liveO g.ro++(resE rs (resL g.res rs.length) 980000).2,base:=g.ci.length,cs:=g.co,nx:=0 }
def St0 (g:Sg A) (x:A.I (tupT g.ci)):St A:={ E:=argT 0 g.args,O:=g.po.map fun p=>(p.1,some p.2),L:=St.pushL 0 (splitT A g.ci x) [],nl:=g.ci.length,nx:=1000 }
def runF (P:Program) (Γ:List (Sg A)) (N:Nat) (rs:List ResultVar) (body:Code) (h:H) (g:Sg A) (x:A.I (tupT g.ci)):A.M (tupT g.co) :=
  jw h (St0 g x) (tupT g.co) (fun e S=>match e with
    | .ret=>mtch S (retT rs g) (tupT g.co) fun v=>A.ret (tupT g.co) v
    | .normal=>mtch S (retT rs g) (tupT g.co) fun v=>A.ret (tupT g.co) v
    | _=>A.fail (tupT g.co) "exit") fun h k=>denC P Γ N body h (St0 g x) (tupT g.co) k
def resB (P:Program) (T:Tpl):List ResultVar→List TV→Bool
  | [],[]=>true
  | .tmp t :: rs,v :: vs=>(match look T.E t with | some v'=>v'.beq v | none=>false) && !v.top && !v.isL&&resB P T rs vs
  | .cell a ty :: rs,v :: vs=>(match look T.E a with
      | some (.ptr nm 0 [])=>(match look T.O nm,v.sz? with
        | some (.box _ v'),some m=>v'.beq v&&tyB P ty m v.agg
        | _,_=>false)
      | _=>false) && !v.isL&&resB P T rs vs
  | _,_=>false
def uniqB:List Nat→Bool
  | []=>true
  | n :: l => !memB n l&&uniqB l
def tupOk:TV→Bool
  | .tup l=>l.wf&&l.isL
  | _=>false
def shB (P:Program) (N:Nat) (rs:List ResultVar) (g:Sg A):Bool :=
  ((retT rs g).E.all fun p=>p.2.nq)&&((retT rs g).O.all fun p=>p.2.nq)&&(g.args.all fun v => !v.top && !v.isL&&v.lt g.ci.length)&&(g.po.all fun p=>p.2.lt g.ci.length)&&Nat.ble g.args.length N &&
  resB P (retT rs g) rs (resL g.res rs.length)&&(retT rs g).good &&
  (Nat.beq rs.length 1 || tupOk g.res) &&
  uniqB (keys g.ro)&&(g.ro.all fun p=>match p.2 with | some o=>o.wf&&o.names.all fun n=>memB n (keys g.ro) | none=>true) &&
  ((resL g.res rs.length).all fun v=>v.wf && !v.isL&&v.names.all fun n=>memB n (keys g.ro))
end
section
variable {P:Program}
theorem A4p [Hid] {f:Val}:∀ (vs:List TV) (k:Nat),argE k (vs.map (TV.v f))=eOf f (argT k vs)
  | [],_=>rfl
  | v :: vs,k=>by simp only [List.map_cons,argE,argT,eOf,A4p vs (k+1)]
theorem A9d (a b:List (Lf typ)):∀ (n:Nat) (L:List (Nat×Lf typ)),St.pushL (n+a.length) b (St.pushL n a L)=St.pushL n (a++b) L:=by
  induction a with
  | nil=>intro n L;rfl
  | cons x a ih =>
    intro n L;simp only [St.pushL,List.cons_append,List.length_cons];rw [show n+(a.length+1)=n+1+a.length from by omega];exact ih _ _
theorem A66 [Hid] {T:Tpl} {f:Val}:∀ {rs:List ResultVar} {vs:List TV},resB P T rs vs=true→Res P (eOf f T.E) (oOf f (T.O.map fun p=>(p.1,some p.2))) rs (vs.map (TV.v f))
  | [],[],_ => .nil
  | .tmp t :: rs,v :: vs,h=>by
    simp only [resB,Bool.and_eq_true,Bool.not_eq_true'] at h;obtain⟨⟨⟨h1,h2⟩,h3⟩,h4⟩:=h;split at h1
    · rename_i v' hv;have:=TV.G9 h1;subst this;exact .tmp (by rw [eOf,H1,hv];rfl) (A0v h2) (A66 h4)
    · cases h1
  | .cell a ty :: rs,v :: vs,h=>by
    simp only [resB,Bool.and_eq_true,Bool.not_eq_true'] at h;obtain⟨⟨h1,h3⟩,h4⟩:=h;split at h1
    · rename_i nm ha;split at h1
      · rename_i bt v' m hn hm;simp only [Bool.and_eq_true] at h1;have:=TV.G9 h1.1;subst this;obtain⟨s1,s2⟩:=TV.H5 (f:=f) hm h3;have hn':look (oOf f (T.O.map fun p=>(p.1,some p.2))) nm=some (some (.box bt (v'.v f))):=by
          rw [oOf,List.map_map];have:(T.O.map ((fun p=>(p.1,p.2.map (TOb.o f))) ∘ fun p:Nat×TOb=>(p.1,some p.2)))=T.O.map fun p=>(p.1,some (p.2.o f)):=rfl;rw [this,H1 (fun o=>some (TOb.o f o)),hn];rfl
        exact .cell (by rw [eOf,H1,ha];rfl) hn' (C5 h1.2) (TV.T7 h3 (by rw [hm];simp)) (TV.sz_v hm h3) s1 (A66 h4)
      · cases h1
    · cases h1
  | [],_ :: _,h | .tmp _ :: _,[],h | .cell _ _ :: _,[],h=>by simp [resB] at h
theorem U6 [Hid] {f:Val} {n:Nat} {o:TOb} {l2:List (Nat×TOb)}:∀ {l:List (Nat×Option TOb)},uniqB (keys l)=true→(n,some o)∈l→look (oOf f ((liveO l++l2).map fun p=>(p.1,some p.2))) n=some (some (o.o f))
  | [],_,h=>by cases h
  | (m,none) :: l,hu,h=>by
    have hu':uniqB (keys l)=true:=by
      simp only [keys,List.map_cons,uniqB,Bool.and_eq_true] at hu;exact hu.2
    rcases List.mem_cons.1 h with e | h
    · cases e
    · exact U6 (l:=l) hu' h
  | (m,some q) :: l,hu,h=>by
    simp only [keys,List.map_cons,uniqB,Bool.and_eq_true,Bool.not_eq_true'] at hu;rcases List.mem_cons.1 h with e | h
    · cases e;simp only [liveO,List.cons_append,List.map_cons,oOf,A2,if_true];rfl
    · have hne:m≠n:=fun e=>by
        subst e;have:memB m (l.map (·.1))=true:=memB_of (List.mem_map.2 ⟨_,h,rfl⟩);rw [hu.1] at this;cases this
      have ih:=U6 (f:=f) (l2:=l2) (l:=l) hu.2 h;simp only [liveO,List.cons_append,List.map_cons,oOf,A2,if_neg hne] at ih ⊢;exact ih
where memB_of {n:Nat}:∀ {l:List Nat},n∈l→memB n l=true
  | m :: l,h=>by
    simp only [memB,Bool.or_eq_true];rcases List.mem_cons.1 h with e | h
    · left;subst e;exact Nat.beq_refl _
    · right;exact memB_of h
theorem mkC {f:FuncId} {fn:Func} {body:Code} {Γ:List (Sg typ)} {g:Sg typ} {h:H} (hf:P.funcs[f]? = some fn) (hb:fn.body=some body) (hΓ:∀ g∈Γ,COk P g) (hm:P.follows .mixedOrders=true) (hg:g.fid=f)
    (hs:shB P fn.ntmps fn.results.toList g=true) (hr:∀ x,runF (A:=typ) P Γ fn.ntmps fn.results.toList body h g x=g.run x):COk P g:=by
  subst hg;intro x r hx;rw [← hr x] at hx;unfold shB at hs;simp only [Bool.and_eq_true] at hs;obtain⟨⟨⟨⟨⟨⟨⟨⟨⟨⟨q1,q2⟩,s1⟩,s2⟩,s3⟩,s4⟩,s5⟩,s6⟩,s7⟩,s8⟩,s9⟩:=hs;have l0:∀ c i,(St0 (A:=typ) g x).lv c i=tval (splitT typ g.ci x) c i:=fun _ _=>rfl;have hok:(St0 (A:=typ) g x).ok:=by
    constructor
    · show St.ltE g.ci.length (argT 0 g.args)=true;have:∀ (vs:List TV) (k:Nat),(vs.all fun v => !v.top && !v.isL&&v.lt g.ci.length)=true→St.ltE g.ci.length (argT k vs)=true:=by
        intro vs;induction vs with
        | nil=>intro k _;rfl
        | cons v vs ih =>
          intro k hv;simp only [List.all_cons,Bool.and_eq_true] at hv;simp only [argT,St.ltE,Bool.and_eq_true];exact⟨hv.1.2,ih _ (by simpa [Bool.and_eq_true] using hv.2)⟩
      exact this _ _ s1
    · show St.ltO g.ci.length (g.po.map fun p=>(p.1,some p.2))=true;have:∀ po:List (Nat×TOb),(po.all fun p=>p.2.lt g.ci.length)=true→St.ltO g.ci.length (po.map fun p=>(p.1,some p.2))=true:=by
        intro po;induction po with
        | nil=>intro _;rfl
        | cons v vs ih =>
          intro hv;simp only [List.all_cons,Bool.and_eq_true] at hv;simp only [List.map_cons,St.ltO,Bool.and_eq_true];exact⟨hv.1,ih hv.2⟩
      exact this _ s2
  refine AC.of_code2 hf hb ?_ (by rw [List.length_map];exact Nat.le_of_ble_eq_true s3) (fun B hB hN => ?_) ?_
  · rw [List.all_map];refine List.all_eq_true.2 fun v hv => ?_;have:=List.all_eq_true.1 s1 v hv;simp only [Bool.and_eq_true,Bool.not_eq_true'] at this;simp only [Function.comp,noTupB,Bool.not_eq_true'];exact A0v this.1.1
  · rw [A4p];have eo:((g.po.map fun p=>(p.1,p.2.o (tval (splitT typ g.ci x)))).map fun p=>(p.1,some p.2))=(St0 (A:=typ) g x).o:=by
      show _=oOf (tval (splitT typ g.ci x)) (g.po.map fun p=>(p.1,some p.2));simp only [oOf,List.map_map];rfl
    rw [eo];have soft:Soft B (Fin2 P B fn.results.toList (g.res.v (tval (splitT typ g.ci x++splitT typ g.co r))) (oOf (tval (splitT typ g.ci x++splitT typ g.co r)) g.ro)):=fun e E E' O O' m hq=>by
      obtain⟨h1,E1,O1,m1,h2⟩:=hq;exact⟨h1,E1,O1,m.trans m1,h2⟩
    have fin0:∀ {E:EL} {O:OL} {e:Exit},Mat B E O (eOf (tval (splitT typ g.ci x++splitT typ g.co r)) (retT fn.results.toList g).E) (oOf (tval (splitT typ g.ci x++splitT typ g.co r)) ((retT fn.results.toList g).O.map fun p=>(p.1,some p.2)))→(e = .ret∨e = .normal)→Fin2 P B fn.results.toList (g.res.v (tval (splitT typ g.ci x++splitT typ g.co r))) (oOf (tval (splitT typ g.ci x++splitT typ g.co r)) g.ro) e E O:=fun {E O e} h2 he=>by
      generalize tval (splitT typ g.ci x++splitT typ g.co r)=fo at h2 ⊢;refine⟨he,_,_,h2,(resL g.res fn.results.toList.length).map (TV.v fo),A66 s4,?_,?_,?_,?_⟩
      · rw [Bool.or_eq_true] at s6;unfold resL;rcases s6 with s6 | s6
        · rw [if_pos (Nat.eq_of_beq_eq_true s6)];rfl
        · unfold tupOk at s6;split at s6
          · rename_i l hl;simp only [Bool.and_eq_true] at s6
            by_cases hn:fn.results.toList.length=1
            · rw [if_pos hn];rfl
            · rw [if_neg hn,hl]
              skip
              have e1:(TV.tup l).v fo = .tup (l.toL.map (TV.v fo)):=by
                show V.tup (l.vs fo)=_;rw [A5v s6.1 s6.2]
              rw [e1];have hlen:(l.toL.map (TV.v fo)).length≠1:=by
                have:=(res_len s4).symm;simp only [resL,if_neg hn,hl] at this;rw [List.length_map,this];exact hn
              generalize l.toL.map (TV.v fo)=q at hlen
              match q,hlen with
              | [],_=>rfl
              | [_],h=>simp at h
              | _ :: _ :: _,_=>rfl
          · cases s6
      · unfold okPat;have hk:keys (oOf fo g.ro)=keys g.ro:=X1 _;rw [hk];simp only [List.all_nil,Bool.true_and,Bool.and_eq_true,List.all_eq_true];refine⟨⟨fun p hp => ?_,fun p hp q hq => ?_⟩,fun p hp => ?_⟩
        · simp only [oOf,List.mem_map] at hp;obtain⟨p',hp',rfl⟩:=hp;have:=List.all_eq_true.1 s8 p' hp';obtain⟨n,o⟩:=p';cases o with
          | none=>rfl
          | some o =>
            simp only [Bool.and_eq_true] at this;simp only [Option.map_some];exact TOb.A31 this.1 this.2
        · obtain⟨n,o⟩:=p;obtain⟨m,o'⟩:=q;cases o<;>cases o'<;>simp [rnm,look]
        · obtain⟨n,o⟩:=p;cases o<;>simp [rnm,look]
      · unfold patO patO';refine List.map_congr_left fun p hp => ?_;simp only [oOf,List.mem_map] at hp;obtain⟨p',hp',rfl⟩:=hp;obtain⟨n,o⟩:=p';cases o with
        | none=>rfl
        | some o =>
          simp only [Option.map_some];have:=U6 (f:=fo) (l2:=(resE fn.results.toList (resL g.res fn.results.toList.length) 980000).2) s7 hp';show look _ (rnm [] n)=_;rw [show rnm [] n=n from rfl];rw [show(retT fn.results.toList g).O=liveO g.ro++(resE fn.results.toList (resL g.res fn.results.toList.length) 980000).2 from rfl,this];congr 2;have hid:∀ n,rnm [] n=n:=fun _=>rfl;cases o with
          | box t x=>simp only [TOb.o,Ob.ren,V.ren_id hid]
          | row e c i=>rfl
          | map kc vc i=>rfl
          | glob g c i=>rfl
          | qrow e j=>rfl
          | vrow e c j pos x=>simp only [TOb.o,Ob.ren,V.renL_id hid]
      · rw [X1];have:∀ l:List TV,(l.all fun v=>v.wf && !v.isL&&v.names.all fun n=>memB n (keys g.ro))=true→(V.namesL (l.map (TV.v fo))).all (fun n=>memB n (keys g.ro))=true:=by
          intro l;induction l with
          | nil=>intro _;rfl
          | cons v l ih =>
            intro hv;simp only [List.all_cons,Bool.and_eq_true,Bool.not_eq_true'] at hv;simp only [List.map_cons,V.namesL,List.all_append,Bool.and_eq_true];exact⟨TV.W9 hv.1.1.1 hv.1.1.2 hv.1.2,ih (by simpa [Bool.and_eq_true] using hv.2)⟩
        exact this _ s9
    refine jwS hB (B2y hΓ hB hN hm body) hok soft (@fun i e S' ok' hx' hk' => ?_) hx;have fin:mtch (A:=typ) S' (retT fn.results.toList g) (tupT g.co) (fun v=>typ.ret (tupT g.co) v)=some r→∀ e:Exit,(e = .ret∨e = .normal)→Fin2 P B fn.results.toList (@TV.v hid0 (tval (splitT typ g.ci x++splitT typ g.co r)) g.res) (@oOf hid0 (tval (splitT typ g.ci x++splitT typ g.co r)) g.ro) e (@St.e i S') (@St.o i S'):=fun hk e he=>by
      obtain⟨v,h1,h2⟩:=S6 hB ok' hx' (Nat.le_refl _) hk;cases h1;have el:((retT fn.results.toList g).inst (A:=typ) (St0 (A:=typ) g x).L r).lv=tval (splitT typ g.ci x++splitT typ g.co r):=by
        funext c i;show St.lvL typ (St.pushL g.ci.length (splitT typ g.co r) (St.pushL 0 (splitT typ g.ci x) [])) c i=St.lvL typ (St.pushL 0 (splitT typ g.ci x++splitT typ g.co r) []) c i;have:=A9d (splitT typ g.ci x) (splitT typ g.co r) 0 [];rw [O7,Nat.zero_add] at this;rw [this]
      have ee:@St.e i ((retT fn.results.toList g).inst (A:=typ) (St0 (A:=typ) g x).L r) = @eOf hid0 (tval (splitT typ g.ci x++splitT typ g.co r)) (retT fn.results.toList g).E:=by
        show @eOf i ((retT fn.results.toList g).inst (A:=typ) (St0 (A:=typ) g x).L r).lv _=_;rw [el];exact B4j i hid0 q1
      have eoo:@St.o i ((retT fn.results.toList g).inst (A:=typ) (St0 (A:=typ) g x).L r) = @oOf hid0 (tval (splitT typ g.ci x++splitT typ g.co r)) ((retT fn.results.toList g).O.map fun p=>(p.1,some p.2)):=by
        show @oOf i ((retT fn.results.toList g).inst (A:=typ) (St0 (A:=typ) g x).L r).lv _=_;rw [el];exact B0p i hid0 (l:=(retT fn.results.toList g).O.map fun p=>(p.1,some p.2)) (by rw [List.all_map];exact q2)
      rw [ee,eoo] at h2;exact fin0 h2 he
    cases e with
    | ret=>exact fin hk' _ (.inl rfl)
    | normal=>exact fin hk' _ (.inr rfl)
    | _=>cases hk'
  · rw [List.all_map];exact List.all_eq_true.2 fun p _=>TOb.A75 p.2
where res_len {T:Tpl}:∀ {rs:List ResultVar} {vs:List TV},resB P T rs vs=true→rs.length=vs.length
  | [],[],_=>rfl
  | .tmp _ :: rs,v :: vs,h=>by simp only [resB,Bool.and_eq_true] at h;simp only [List.length_cons,res_len h.2]
  | .cell _ _ :: rs,v :: vs,h=>by simp only [resB,Bool.and_eq_true] at h;simp only [List.length_cons,res_len h.2]
  | [],_ :: _,h | .tmp _ :: _,[],h | .cell _ _ :: _,[],h=>by simp [resB] at h
end
end Go.Vc
namespace Go.Vc
theorem glN {P:Program}:∀ g∈([]:List (Sg typ)),COk P g:=fun _ h=>by cases h
theorem glC {P:Program} {g:Sg typ} {l:List (Sg typ)} (h:COk P g) (k:∀ g∈l,COk P g):∀ g'∈g :: l,COk P g':=fun g' hg=>by
  rcases List.mem_cons.1 hg with e | hg
  · rw [e];exact h
  · exact k _ hg
end Go.Vc
namespace Go.Vc
open Go Go.Shelf Go.RowKit Go.Proofs Go.Lib
variable {P:Program} {ρ:Ren}

theorem AC.fresh {f:FuncId} {args:List V} {ks:List (Nat×Know)} {res:V}
    (h:∀ (ob:Obs) (w:World) (σ:Nat→Option Nat) (Z:Nat→Prop) (cargs:List Value),RepVs ob σ Z w cargs args→(∀ b,Z b→b<w.heap.size)→(∀ n k,look ks n=some k→k.holds Z w) →
      Calls P f cargs.toArray w fun e w'=>∃ cv,e = .returned cv∧Below w.heap.size w w'∧∃ Z':Nat→Prop,(∀ b,Z b→Z' b)∧(∀ b,Z' b→Z b∨(w.heap.size≤b∧b<w'.heap.size))∧∀ ob σ,RepT ob σ Z' w' cv res) :
    AC P f args (ks.map fun p=>(p.1,.know p.2)) res (ks.map fun p=>(p.1,some (.know p.2))):=by
  intro w σ Z cargs pre;have kn:∀ n o,look (ks.map fun p=>(p.1,some (Ob.know p.2))) n=some (some o)→∃ k,look ks n=some k∧o = .know k:=fun n o hn=>by
    rw [H1 fun k=>some (Ob.know k)] at hn;cases hk:look ks n with
    | none=>rw [hk] at hn;cases hn
    | some k=>rw [hk] at hn;cases hn;exact⟨k,rfl,rfl⟩
  have ob0:∀ n k,look ks n=some k→σ n=none∧k.holds Z w:=fun n k hk=>pre.obj n (.know k) (by simp only [obOf,H1 Ob.know,hk,Option.map_some]);have dead:∀ n b,live (look (ks.map fun p=>(p.1,some (Ob.know p.2)))) n→σ n=some b→False:=fun n b ⟨o,ho⟩ hb=>by
    obtain⟨k,hk,_⟩:=kn n o ho;rw [(ob0 n k hk).1] at hb;cases hb
  refine(h _ w σ Z cargs pre.args pre.zlt fun n k hk=>(ob0 n k hk).2).mono fun e w' ⟨cv,he,hb,Z',z1,z2,hr⟩=>⟨cv,σ,Z',he,⟨hr _ _,fun n o hn => ?_,fun n m b hn _ hb _=>(dead n b hn hb).elim,fun _ _ _ _=>rfl,fun n b _ _ hl hb=>(dead n b hl hb).elim,fun n b hl hb=>(dead n b hl hb).elim,fun b hz => ?_,z1,fun b hz => ?_,hb.os,hb.tape,hb.output,hb.size,fun k hk _=>hb.block k hk⟩⟩
  · obtain⟨k,hk,rfl⟩:=kn n o hn;exact⟨(ob0 n k hk).1,k.move ⟨z1,fun b hz=>hb.block b (pre.zlt b hz)⟩ (ob0 n k hk).2⟩
  · rcases z2 b hz with h | h
    · exact Nat.lt_of_lt_of_le (pre.zlt b h) hb.size
    · exact h.2
  · rcases z2 b hz with h | h
    · exact .inl h
    · exact .inr (.inl h.1)
theorem A1c {B:Nat} {a w:World} (h:Below B a w):∀ n,Below B a (w.drewN n):=fun n=>⟨h.os,h.tape,h.output,h.size,h.block⟩
theorem A67 {B:Nat} {a w:World} (h:Below B a w) (hB:B≤w.heap.size) (os:Array Obj):Below B a (Go.Sort.grow w os) :=
  ⟨h.os,h.tape,h.output,by simp only [Go.Sort.grow,Array.size_append];exact Nat.le_trans h.size (Nat.le_add_right _ _),fun k hk=>by
    rw [← h.block k hk];show(w.heap++os)[k]? = _;rw [Array.getElem?_append_left (Nat.lt_of_lt_of_le hk hB)]⟩
section
variable {ob:Obs} {σ:Nat→Option Nat} {Z:Nat→Prop} {w:World}
theorem B16 {v:Value} {xs:List (List UInt8)} (h:RepV ob σ Z w v (.d (.list 1 (xs.map D.str)))):∃ a c,v = .slice a xs.length c∧xs.length≤c∧(xs=[]∨∃ b o,a=some ⟨b,o,none⟩∧Z b∧∀ (j:Nat) x,xs[j]? = some x→w.cell? ⟨b,o+j,none⟩=some (.string ⟨x.toArray⟩)):=by
  obtain⟨a,c,h1,h2,_,h4⟩:=(And.left h:D.rep Z w _ [v]);rw [List.length_map] at h1 h2;refine⟨a,c,by simpa using h1,h2,?_⟩;rcases h4 with h4 | ⟨b,o,ha,hz,_,hr⟩
  · exact .inl (by simpa using h4)
  · refine .inr ⟨b,o,ha,hz,fun j x hj => ?_⟩;obtain⟨cs,k1,k2⟩:=D.repE_get _ b o j (.str x) hr (by rw [List.getElem?_map,hj];rfl);have:=k1 0 (.string ⟨x.toArray⟩) (by rw [show cs=[.string ⟨x.toArray⟩] from k2];rfl);rwa [Nat.mul_one,Nat.add_zero] at this
theorem K5 {v:Value} {s:List UInt8} (h:RepV ob σ Z w v (.d (.str s))):v = .string ⟨s.toArray⟩:=by
  have:=(And.left h:D.rep Z w (.str s) [v]);simpa [D.rep] using this
end
def hJoin (xs:List (List UInt8)) (sep:List UInt8):Option (List UInt8):=chk (decide (xs.length≤LIM)&&decide ((join xs sep).length≤LIM)) (some (join xs sep))
def kJoin (f:FuncId):Sg typ:=⟨f,[.d (.list .str) 0,.d .str 1],[],[.list .str,.str],[.str],.d .str 2,[],fun x=>hJoin x.1 x.2⟩
theorem K0 (l:List UInt8):(ByteArray.mk l.toArray).data.toList=l:=by simp
theorem B17 (L:Lays.n156 P ρ) (X:Builder.Extra P ρ) {f:FuncId} (hf:ρ.f 156=f):COk P (kJoin f):=by
  subst hf;rintro⟨(xs:List (List UInt8)),(sep:List UInt8)⟩ r hr;obtain⟨hc,hr⟩:=G6 hr;simp only [Bool.and_eq_true,decide_eq_true_eq] at hc;have hl:LIM≤140737488355328:=by decide
  obtain rfl:=Option.some.inj hr;show AC P _ [.d (.list 1 (xs.map D.str)),.d (.str sep)] [] (.d (.str (join xs sep))) [];refine AC.fresh (ks:=[]) fun ob w σ Z cargs ha hz _ => ?_
  match cargs,ha with
  | [v1,v2],⟨h1,h2,_⟩ =>
    obtain⟨a,c,rfl,hcap,hd⟩:=B16 h1;obtain rfl:=K5 h2;have fin:∀ {e:Ending} {w':World},e = .returned (.string ⟨(join xs sep).toArray⟩)→Below w.heap.size w w'→∃ cv,e = .returned cv∧Below w.heap.size w w'∧∃ Z':Nat→Prop,(∀ b,Z b→Z' b)∧(∀ b,Z' b→Z b∨(w.heap.size≤b∧b<w'.heap.size))∧∀ ob σ,RepT ob σ Z' w' cv (.d (.str (join xs sep))) :=
      fun he hb=>⟨_,he,hb,Z,fun _ h=>h,fun _ h => .inl h,fun _ _=>Q0 _⟩
    rcases hd with rfl | ⟨b,o,rfl,hzb,hcells⟩
    · exact(Any.strings_Join_none L X a c ⟨sep.toArray⟩ w).mono fun e w' ⟨he,hw⟩=>fin (by rw [he];rfl) (hw ▸ Below.refl _ _)
    · have hj:=Any.strings_Join L X b o c (xs.map fun l=>⟨l.toArray⟩) ⟨sep.toArray⟩ w (fun j x hj=>by
          rw [List.getElem?_map] at hj;cases hq:xs[j]? with
          | none=>rw [hq] at hj;cases hj
          | some y=>rw [hq] at hj;cases hj;exact hcells j y hq) (hz b hzb) (by rw [List.length_map];omega) (by rw [List.length_map];exact hcap)
      rw [List.map_map,List.length_map] at hj;have em:xs.map ((fun x:ByteArray=>x.data.toList) ∘ fun l=>⟨l.toArray⟩)=xs:=by
        rw [List.map_congr_left (g:=id) (fun l _=>by simp),List.map_id]
      rw [em,K0] at hj;exact(hj (by omega)).mono fun e w' ⟨he,hb⟩=>fin he hb

theorem A2g {Z:Nat→Prop} {w:World}:∀ xs:List (List UInt8),D.repL Z w (xs.map D.str) (xs.map fun l=>Value.string ⟨l.toArray⟩)
  | []=>rfl
  | x :: xs=>⟨[.string ⟨x.toArray⟩],xs.map fun l=>Value.string ⟨l.toArray⟩,rfl,rfl,A2g xs⟩
def splitC (c:UInt8):List UInt8→List (List UInt8)
  | []=>[[]]
  | b :: l=>if b=c then [] :: splitC c l else match splitC c l with
    | h :: t=>(b :: h) :: t
    | []=>[[b]]
theorem A9e {b c:UInt8} (h:b≠c) (k:Nat) (l:List UInt8):splitK [c] 0 k (b :: l)=match splitK [c] 0 k l with
    | h :: t=>(b :: h) :: t
    | []=>[[b]]:=by
  have hb:¬ (c==b)=true:=fun e=>h (eq_of_beq e).symm;cases k with
  | zero=>rfl
  | succ k =>
    have e:index (b :: l) [c]=if index l [c] == -1 then -1 else index l [c]+1:=by
      rw [index,if_neg (by simpa [List.isPrefixOf] using hb)]
    have g:=index_ge l [c];unfold splitK;rw [e]
    by_cases hm:(index l [c] == -1)=true
    · rw [if_pos hm,if_pos hm];rfl
    · have hi:index l [c] ≠ -1:=fun e=>hm (by rw [e];rfl);obtain⟨i,hi⟩:∃ i:Nat,index l [c]=i:=⟨(index l [c]).toNat,by omega⟩;have q1:¬ (((i:Int)+1) == -1)=true:=fun e=>by have:=eq_of_beq e;omega
      have q2:((i:Int)+1).toNat=i+1:=by omega
      have q3:¬ ((i:Int) == -1)=true:=fun e=>by have:=eq_of_beq e;omega
      rw [if_neg hm,hi,if_neg q1,if_neg q3,q2];simp [Nat.add_right_comm]
theorem A9f (c:UInt8) (k:Nat) (l:List UInt8):splitK [c] 0 (k+1) (c :: l)=[] :: splitK [c] 0 k l:=by
  have e:index (c :: l) [c]=0:=by rw [index,if_pos (by simp [List.isPrefixOf])]
  rw [splitK,e];rfl
theorem A1d (c:UInt8):∀ l:List UInt8,splitK [c] 0 (l.count c) l=splitC c l
  | []=>rfl
  | b :: l=>by
    by_cases h:b=c
    · subst h;rw [List.count_cons_self,A9f,A1d b l,splitC,if_pos rfl]
    · rw [List.count_cons_of_ne h,A9e h,A1d c l,splitC,if_neg h]
theorem A9g {x:ByteArray}:x=⟨x.data.toList.toArray⟩:=by cases x;simp
def hSplit (s sep:List UInt8):Option (List (List UInt8)):=match sep with
  | [c]=>chk (decide (s.length<4294967281)) (some (splitC c s))
  | _=>none
def kSplit (f g:Nat):Sg typ:=⟨f,[.d .str 0,.d .str 1],[(0,.glob g (.int .i64) 2)],[.str,.str,.int .i64],[.list .str],.d (.list .str) 3,[(0,some (.glob g (.int .i64) 2))],fun x=>hSplit x.1 x.2.1⟩
theorem Y8 {Z:Nat→Prop} {w:World} {g:Nat} {m:Int} (h:(globD g (.int .i64 m)).holds Z w):w.cell? ⟨g,0,none⟩=some (.int .i64 m):=by
  obtain⟨_,cs,h1,h2,_⟩:=h;have:cs=[.int .i64 m]:=h2;subst this;exact h1 0 _ rfl
theorem A9h (L:LaysM.n146 P ρ) {f g:Nat} (hf:ρ.f 146=f) (hg:ρ.g 1=g):COk P (kSplit f g):=by
  subst hf hg;rintro⟨(s:List UInt8),(sep:List UInt8),(m:Int)⟩ r hr;have hr:hSplit s sep=some r:=hr;obtain⟨c,rfl⟩:∃ c,sep=[c]:=by
    unfold hSplit at hr;split at hr
    · exact⟨_,rfl⟩
    · cases hr
  obtain⟨hc,hr⟩:=G6 hr;have hc:=of_decide_eq_true hc;obtain rfl:=Option.some.inj hr;show AC P _ [.d (.str s),.d (.str [c])] [(0,.know (globD (ρ.g 1) (.int .i64 m)))] (.d (.list 1 ((splitC c s).map D.str))) [(0,some (.know (globD (ρ.g 1) (.int .i64 m))))];refine AC.fresh (ks:=[(0,globD (ρ.g 1) (.int .i64 m))]) fun ob w σ Z cargs ha hz hk => ?_;have hm:=Y8 (hk 0 _ rfl)
  match cargs,ha with
  | [v1,v2],⟨h1,h2,_⟩ =>
    obtain rfl:=K5 h1;obtain rfl:=K5 h2;have hsz:∀ l:List UInt8,ByteArray.size ⟨l.toArray⟩=l.length:=fun l=>by simp [ByteArray.size]
    refine(Any.strings_Split { L with } L.i9 ⟨s.toArray⟩ ⟨[c].toArray⟩ m w (by rw [hsz];exact hc) hm (by rw [hsz];exact Nat.le_refl _)).mono fun e w' ⟨he,hw⟩ => ?_;have h0:countB ⟨s.toArray⟩ ⟨[c].toArray⟩=s.count c:=by
      show count _ _=_;rw [K0,K0,count_one]
    have h1:=splitB_data ⟨[c].toArray⟩ 0 (s.count c) ⟨s.toArray⟩;rw [K0,K0,A1d] at h1;have h2:(splitB ⟨[c].toArray⟩ 0 (s.count c) ⟨s.toArray⟩).map Value.string=(splitC c s).map fun l=>Value.string ⟨l.toArray⟩:=by
      rw [← h1,List.map_map];exact List.map_congr_left fun x _=>congrArg Value.string A9g
    have h3:=splitB_all ⟨[c].toArray⟩ (by rw [hsz];exact Nat.le_refl _) 0 _ ⟨s.toArray⟩ h0;have h4:(splitC c s).length=s.count c+1:=by rw [← h1,List.length_map,h3]
    rw [h0] at he hw;rw [h2] at hw;subst hw;refine⟨_,he,(Below.refl _ w).alloc (Nat.le_refl _) _,fun b=>Z b∨b=w.heap.size,fun b h => .inl h,fun b h => ?_,fun ob σ=>⟨⟨some ⟨w.heap.size,0,none⟩,s.count c+1,by rw [List.length_map,h4],by rw [List.length_map,h4];exact Nat.le_refl _,?_,.inr ⟨_,0,rfl,.inr rfl,?_,?_⟩⟩,.inr rfl⟩⟩
    · rcases h with h | h
      · exact .inl h
      · subst h;exact .inr ⟨Nat.le_refl _,by simp⟩
    · have:=List.count_le_length (a:=c) (l:=s);omega
    · intro d hd;obtain⟨x,_,rfl⟩:=List.mem_map.1 hd;rfl
    · refine D.repE_of_repL _ _ _ _ (A2g (splitC c s)) (fun d hd => ?_) fun j v hj => ?_
      · obtain⟨x,_,rfl⟩:=List.mem_map.1 hd;rfl
      · rw [Nat.zero_add,cell_of_row (w.alloc _) w.heap.size j _ _ (0,0) (heap_alloc_new w _)];rw [List.getElem?_toArray];exact hj
def hHas (s sep:List UInt8):Option Bool:=chk (decide (s.length<4294967281)) (some (contains s sep))
def kHas (f g:Nat):Sg typ:=⟨f,[.d .str 0,.d .str 1],[(0,.glob g (.int .i64) 2)],[.str,.str,.int .i64],[.bool],.d .bool 3,[(0,some (.glob g (.int .i64) 2))],fun x=>hHas x.1 x.2.1⟩
theorem B2z (L:Lays.n144 P ρ) {f g:Nat} (hf:ρ.f 144=f) (hg:ρ.g 1=g):COk P (kHas f g):=by
  subst hf hg;rintro⟨(s:List UInt8),(sep:List UInt8),(m:Int)⟩ r hr;obtain⟨hc,hr⟩:=G6 hr;have hc:=of_decide_eq_true hc;obtain rfl:=Option.some.inj hr;show AC P _ [.d (.str s),.d (.str sep)] [(0,.know (globD (ρ.g 1) (.int .i64 m)))] (.d (.bool (contains s sep))) [(0,some (.know (globD (ρ.g 1) (.int .i64 m))))];refine AC.fresh (ks:=[(0,globD (ρ.g 1) (.int .i64 m))]) fun ob w σ Z cargs ha hz hk => ?_;have hm:=Y8 (hk 0 _ rfl)
  match cargs,ha with
  | [v1,v2],⟨h1,h2,_⟩ =>
    obtain rfl:=K5 h1;obtain rfl:=K5 h2;refine(Any.strings_Contains L ⟨s.toArray⟩ ⟨sep.toArray⟩ m w (by simpa [ByteArray.size] using hc) hm).mono fun e w' ⟨he,hw⟩ => ?_;rw [K0,K0] at he;subst hw;exact⟨_,he,Below.refl _ _,Z,fun _ h=>h,fun _ h => .inl h,fun _ _=>D8 _⟩
def hCut (s sep:List UInt8):Option (List UInt8×List UInt8×Bool):=chk (decide (s.length<4294967281)) (some (cut s sep))
def kCut (f g:Nat):Sg typ:=⟨f,[.d .str 0,.d .str 1],[(0,.glob g (.int .i64) 2)],[.str,.str,.int .i64],[.str,.str,.bool],.tup (.cons (.d .str 3) (.cons (.d .str 4) (.cons (.d .bool 5) .nil))),[(0,some (.glob g (.int .i64) 2))],fun x=>hCut x.1 x.2.1⟩
theorem B30 (L:Lays.n145 P ρ) {f g:Nat} (hf:ρ.f 145=f) (hg:ρ.g 1=g):COk P (kCut f g):=by
  subst hf hg;rintro⟨(s:List UInt8),(sep:List UInt8),(m:Int)⟩ r hr;obtain⟨hc,hr⟩:=G6 hr;have hc:=of_decide_eq_true hc;obtain rfl:=Option.some.inj hr;show AC P _ [.d (.str s),.d (.str sep)] [(0,.know (globD (ρ.g 1) (.int .i64 m)))] (.tup [.d (.str (cut s sep).1),.d (.str (cut s sep).2.1),.d (.bool (cut s sep).2.2)]) [(0,some (.know (globD (ρ.g 1) (.int .i64 m))))];refine AC.fresh (ks:=[(0,globD (ρ.g 1) (.int .i64 m))]) fun ob w σ Z cargs ha hz hk => ?_;have hm:=Y8 (hk 0 _ rfl)
  match cargs,ha with
  | [v1,v2],⟨h1,h2,_⟩ =>
    obtain rfl:=K5 h1;obtain rfl:=K5 h2;refine(Any.strings_Cut L ⟨s.toArray⟩ ⟨sep.toArray⟩ m w (by simpa [ByteArray.size] using hc) hm).mono fun e w' ⟨he,n,hw⟩ => ?_;rw [K0,K0] at he;subst hw;exact⟨_,he,A1c (Below.refl _ _) _,Z,fun _ h=>h,fun _ h => .inl h,fun _ _=>⟨[_,_,_],rfl,⟨Q0 _,Q0 _,D8 _,trivial⟩⟩⟩
def decT:Nat→Nat→List UInt8
  | 0,_=>[]
  | f+1,u=>if u<10 then [UInt8.ofNat (48+u)] else decT f (u / 10)++[UInt8.ofNat (48+u % 10)]
theorem A38:∀ (f u:Nat),u<10 ^ f→0<f→decT f u=decDigits u
  | 0,_,_,h=>absurd h (Nat.lt_irrefl _)
  | f+1,u,h,_=>by
    rw [decT,decDigits];split
    · rfl
    · rename_i hu;have h2:u / 10<10 ^ f:=by rw [Nat.pow_succ] at h;omega
      have h0:0<f:=by
        rcases Nat.eq_zero_or_pos f with e | e
        · subst e;simp at h;omega
        · exact e
      rw [A38 f (u / 10) h2 h0]
def itoaT (n:Int):List UInt8:=if n<0 then 45 :: decT 20 n.natAbs else decT 20 n.toNat
def hItoa (n:Int) (tab:List Int):Option (List UInt8):=chk (decide (-9223372036854775808≤n)&&decide (n≤9223372036854775807)&&decide (tab=pow10Tab)) (some (itoaT n))
def kItoa (f g:Nat):Sg typ:=⟨f,[.d (.int .i64) 0],[(0,.glob g (.arr 20 (.int .u64)) 1)],[.int .i64,.arr 20 (.int .u64)],[.str],.d .str 2,[(0,some (.glob g (.arr 20 (.int .u64)) 1))],fun x=>hItoa x.1 x.2⟩
theorem A9i {Z:Nat→Prop} {w:World} {g:Nat} {n:String} {k:IntKind} {m:Nat} {es:List Int} (hg:P.globalNamed n=some g) (h:(globD g (.arr m 1 (es.map (eI k)))).holds Z w):TabIs P w n k es:=by
  obtain⟨_,cs,h1,⟨_,_,h2⟩,arr,t,p,h3,h4⟩:=h;have key:∀ (es:List Int) (cs:List Value),D.repL Z w (es.map (eI k)) cs→cs=es.map (Value.int k):=by
    intro es;induction es with
    | nil=>exact fun cs h=>h
    | cons x es ih =>
      rintro cs ⟨c1,c2,rfl,q1,q2⟩;rw [show c1=[.int k x] from q1,ih c2 q2];rfl
  have hcs:=key es cs h2;subst hcs;unfold TabIs World.var?;rw [hg,Option.bind_some,h3];refine congrArg some ?_;apply Array.ext_getElem?;intro j;have e:((es.map fun z=>Value.int k z).toArray)[j]? = (es.map (Value.int k))[j]? :=by simp
  rw [e]
  by_cases hj:j<arr.size
  · have:=h1 j _ (List.getElem?_eq_getElem (by rw [← h4];exact hj));rw [Nat.zero_add,cell_of_row w g j arr t p h3] at this;rw [this,List.getElem?_eq_getElem (by rw [← h4];exact hj)]
  · rw [Array.getElem?_eq_none (by omega),List.getElem?_eq_none (by rw [← h4];omega)]
theorem B18 (L:LaysM.n171 P ρ) {f g:Nat} (hf:ρ.f 171=f) (hg:P.globalNamed "internal/strconv.uint64pow10" = some g):COk P (kItoa f g):=by
  subst hf;rintro⟨(n:Int),(tab:List Int)⟩ r hr;obtain⟨hc,hr⟩:=G6 hr;simp only [Bool.and_eq_true,decide_eq_true_eq] at hc;obtain⟨⟨c1,c2⟩,rfl⟩:=hc;obtain rfl:=Option.some.inj hr;have e:itoaT n=itoa n:=by
    have hp:(9223372036854775808:Nat)<10 ^ 20:=by decide
    unfold itoaT itoa;split
    · rw [A38 20 _ (by omega) (by decide)]
    · rw [A38 20 _ (by omega) (by decide)]
  show AC P _ [.d (.int .i64 n)] [(0,.know (globD g (.arr 20 1 (pow10Tab.map (eI .u64)))))] (.d (.str (itoaT n))) [(0,some (.know (globD g (.arr 20 1 (pow10Tab.map (eI .u64))))))];rw [e];refine AC.fresh (ks:=[(0,globD g (.arr 20 1 (pow10Tab.map (eI .u64))))]) fun ob w σ Z cargs ha hz hk => ?_;have ht:=A9i hg (hk 0 _ rfl)
  match cargs,ha with
  | [v1],⟨h1,_⟩ =>
    obtain rfl:=B7 (RepT.of h1 rfl);refine(Any.strconv_Itoa L n c1 c2 w ht).mono fun e w' ⟨he,k,os,hw⟩ => ?_;subst hw;exact⟨_,he,A67 (A1c (Below.refl _ _) _) (Nat.le_refl _) _,Z,fun _ h=>h,fun _ h => .inl h,fun _ _=>Q0 _⟩
def hAtoi (s:List UInt8):Option Int:=chk (decide (s.length≤LIM)) (match atoiAll s with
  | .ok v=>some v
  | _=>none)
def kAtoi (f:Nat):Sg typ:=⟨f,[.d .str 0],[],[.str],[.int .i64],.tup (.cons (.d (.int .i64) 1) (.cons (.cst 1) .nil)),[],fun x=>hAtoi x⟩
theorem B19 (L:LaysC.n172 P ρ) {f:Nat} (hf:ρ.f 172=f):COk P (kAtoi f):=by
  subst hf;intro(s:List UInt8) r hr;obtain⟨hc,hr⟩:=G6 hr;have hc:=of_decide_eq_true hc;have hl:LIM≤9223372036854775806:=by decide
  split at hr
  case h_2=>cases hr
  rename_i v hv;obtain rfl:=Option.some.inj hr;show AC P _ [.d (.str s)] [] (.tup [.d (.int .i64 v),.cst .nilIface]) [];refine AC.fresh (ks:=[]) fun ob w σ Z cargs ha hz _ => ?_
  match cargs,ha with
  | [v1],⟨h1,_⟩ =>
    obtain rfl:=K5 h1;refine(Any.strconv_Atoi_ok L ⟨s.toArray⟩ (by simp only [ByteArray.size,List.size_toArray];omega) v (by rw [K0];exact hv) w).mono fun e w' ⟨he,hw⟩ => ?_;refine⟨_,he,?_,Z,fun _ h=>h,fun _ h => .inl h,fun _ _=>⟨[_,_],rfl,⟨F5 _ _,⟨⟨rfl,rfl⟩,.inr rfl⟩,trivial⟩⟩⟩;rcases hw with rfl | ⟨t,rfl⟩
    · exact Below.refl _ _
    · exact bytesWorld_below _ _ _

theorem A2h {Z:Nat→Prop} {w:World}:∀ {es:List D} {cs:List Value},(∀ e∈es,e.sz=1)→D.repL Z w es cs→cs.length=es.length∧∀ (i:Nat) e,es[i]? = some e→∃ v,cs[i]? = some v∧D.rep Z w e [v]
  | [],cs,_,h=>by cases h;exact⟨rfl,fun i e h=>by simp at h⟩
  | x :: es,cs,hs,h=>by
    obtain⟨c1,c2,rfl,h1,h2⟩:=h;have hl:=D.rep_len x c1 h1;rw [hs x (List.mem_cons_self ..)] at hl
    match c1,hl with
    | [v],_ =>
      obtain⟨k1,k2⟩:=A2h (fun e he=>hs e (List.mem_cons_of_mem _ he)) h2;refine⟨by simp [k1],fun i e he => ?_⟩;cases i with
      | zero=>simp at he;subst he;exact⟨v,rfl,h1⟩
      | succ i=>exact k2 i e (by simpa using he)
theorem A2i {Z:Nat→Prop} {w:World} {v:Value} {xs:List Int} (hr:∀ x∈xs,0≤x∧x<256) (h:D.rep Z w (.list 1 (xs.map (eI .u8))) [v]):HoldsBytes w v (Lib.bytesOf xs):=by
  obtain⟨a,c,h1,_,_,h4⟩:=h;rw [List.length_map] at h1;refine⟨a,c,by rw [show v = .slice a xs.length c from by simpa using h1];simp [Lib.bytesOf],fun ha => ?_,fun q hq i x hx => ?_⟩
  · rcases h4 with h4 | ⟨b,o,e,_⟩
    · rw [show xs=[] from by simpa using h4];rfl
    · rw [ha] at e;cases e
  · subst hq;unfold Lib.bytesOf at hx;rw [List.getElem?_map] at hx;cases hn:xs[i]? with
    | none=>rw [hn] at hx;cases hx
    | some n =>
      rw [hn] at hx;cases hx;rcases h4 with h4 | ⟨b,o,e,_,_,hrep⟩
      · rw [show xs=[] from by simpa using h4] at hn;simp at hn
      · cases e;obtain⟨cs,k1,k2⟩:=D.repE_get _ b o i (.int .u8 n) hrep (by rw [List.getElem?_map,hn];rfl);have:=k1 0 (.int .u8 n) (by rw [show cs=[.int .u8 n] from k2];rfl);have hn':=hr n (List.mem_of_getElem? hn);have e2:((UInt8.ofNat n.toNat).toNat:Int)=n:=by
          rw [UInt8.toNat_ofNat',Nat.mod_eq_of_lt (show n.toNat<2 ^ 8 by omega)];omega
        rw [e2,F6];rwa [Nat.mul_one,Nat.add_zero] at this
theorem A08:∀ {xs ys:List Int},(∀ x∈xs,0≤x∧x<256)→(∀ x∈ys,0≤x∧x<256)→Lib.bytesOf xs=Lib.bytesOf ys→xs=ys
  | [],[],_,_,_=>rfl
  | [],_ :: _,_,_,h | _ :: _,[],_,_,h=>by simp [Lib.bytesOf] at h
  | x :: xs,y :: ys,hx,hy,h=>by
    simp only [Lib.bytesOf,List.map_cons,List.cons.injEq] at h;have h1:=hx x (List.mem_cons_self ..);have h2:=hy y (List.mem_cons_self ..);have h3:=congrArg UInt8.toNat h.1;rw [UInt8.toNat_ofNat',UInt8.toNat_ofNat',Nat.mod_eq_of_lt (show x.toNat<2 ^ 8 by omega),Nat.mod_eq_of_lt (show y.toNat<2 ^ 8 by omega)] at h3;rw [show x=y from by omega,A08 (fun z hz=>hx z (List.mem_cons_of_mem _ hz)) (fun z hz=>hy z (List.mem_cons_of_mem _ hz)) h.2]
theorem A9j (ls:List (List UInt8)):join ls []=ls.flatten:=by
  cases ls with
  | nil=>rfl
  | cons x r =>
    rw [join_cons];simp [joinTail]
theorem A9k (ls:List (List UInt8)):lens ls=ls.flatten.length:=by simp [lens,List.length_flatten]
def byteB (x:Int):Bool:=decide (0≤x)&&decide (x<256)
def hBJoin (xs:List (List Int)) (sep:List Int):Option (List Int) :=
  chk (sep.isEmpty&&decide (2≤xs.length)&&decide (xs.length≤LIM)&&decide (xs.flatten.length≤LIM)&&xs.flatten.all byteB) (some xs.flatten)
def kBJoin (f:Nat):Sg typ:=⟨f,[.d (.list (.list (.int .u8))) 0,.d (.list (.int .u8)) 1],[],[.list (.list (.int .u8)),.list (.int .u8)],[.list (.int .u8)],.d (.list (.int .u8)) 2,[],fun x=>hBJoin x.1 x.2⟩
theorem A9l (L:SlLaysJ.n14 P ρ) {f:Nat} (hf:ρ.f 14=f):COk P (kBJoin f):=by
  subst hf;rintro⟨(xs:List (List Int)),(sep:List Int)⟩ r hr;obtain⟨hc,hr⟩:=G6 hr;simp only [Bool.and_eq_true,decide_eq_true_eq,List.isEmpty_iff,List.all_eq_true,byteB] at hc;obtain⟨⟨⟨⟨rfl,c2⟩,c3⟩,c4⟩,c5⟩:=hc;have hl:LIM≤140737488355328:=by decide
  obtain rfl:=Option.some.inj hr;show AC P _ [.d (.list 1 (xs.map fun l=>D.list 1 (l.map (eI .u8)))),.d (.list 1 [])] [] (.d (.list 1 (xs.flatten.map (eI .u8)))) [];refine AC.fresh (ks:=[]) fun ob w σ Z cargs ha hz _ => ?_
  match cargs,ha with
  | [v1,v2],⟨h1,h2,_⟩ =>
    have hin:∀ l∈xs,∀ x∈l,0≤x∧x<256:=fun l hl x hx=>c5 x (List.mem_flatten.2 ⟨l,hl,hx⟩);obtain⟨a,c,k1,k2,_,k4⟩:=(And.left h1:D.rep Z w _ [v1]);rw [List.length_map] at k1 k2;rcases k4 with k4 | ⟨b,o,rfl,hzb,hs,hre⟩
    · rw [show xs=[] from by simpa using k4] at c2;simp at c2
    · obtain⟨vs,q1,q2⟩:=D.repL_of_repE _ b o hre hs;obtain⟨q3,q4⟩:=A2h hs q1;rw [List.length_map] at q3;have hv1:v1 = .slice (some ⟨b,o,none⟩) xs.length c:=by simpa using k1
      subst hv1;have hP:PartsAt w ⟨b,o,none⟩ vs (xs.map Lib.bytesOf):=by
        refine⟨by rw [q3,List.length_map],fun i v hi=>by rw [F6];exact q2 i v hi,fun i v l hi hl => ?_⟩;rw [List.getElem?_map] at hl;cases hx:xs[i]? with
        | none=>rw [hx] at hl;cases hl
        | some x =>
          rw [hx] at hl;cases hl;obtain⟨v',p1,p2⟩:=q4 i (.list 1 (x.map (eI .u8))) (by rw [List.getElem?_map,hx];rfl);obtain rfl:=Option.some.inj (p1.symm.trans hi);exact A2i (hin x (List.mem_of_getElem? hx)) p2
      have hS:HoldsBytes w v2 []:=A2i (xs:=[]) (fun x hx=>by cases hx) (And.left h2);have hfl:(xs.map Lib.bytesOf).flatten=Lib.bytesOf xs.flatten:=by
        simp only [Lib.bytesOf,List.map_flatten,List.map_map];rfl
      have hlen:(Lib.bytesOf xs.flatten).length=xs.flatten.length:=List.length_map ..;refine(Any.bytes_Join_many L b o xs.length c vs (xs.map Lib.bytesOf) v2 [] w (by rw [List.length_map]) c2 hP k2 hS (by omega) (by rw [A9k,hfl,hlen,show([]:List UInt8).length=0 from rfl,Nat.zero_mul];omega)).mono fun e w' ⟨v',he,hf,hb⟩ => ?_;rw [A9j,hfl] at hf;obtain⟨g,cap,zs,rfl,f1,f2,f3,f4,f5,f6,f7,_⟩:=hf;rw [hlen] at f6 f2;have hzs:zs.take xs.flatten.length=xs.flatten:=A08 (fun x hx=>f5 x (List.mem_of_mem_take hx)) (fun x hx=>c5 x hx) f6;have hm:maxLen≤9223372036854775807:=by decide
      by_cases h0:xs.flatten=[]
      · refine⟨_,he,hb,Z,fun _ h=>h,fun _ h => .inl h,fun ob σ=>⟨⟨some ⟨g,0,none⟩,cap,by rw [List.length_map,hlen],by rw [List.length_map];exact f2,by omega,.inl (by rw [h0];rfl)⟩,.inr rfl⟩⟩
      · have hpos:0<xs.flatten.length:=List.length_pos_iff.2 h0;have hg:=World.block_lt_of_cell? _ _ (f7 0 (by omega));refine⟨_,he,hb,fun q=>Z q∨q=g,fun _ h => .inl h,fun q h => ?_,fun ob σ=>⟨⟨some ⟨g,0,none⟩,cap,by rw [List.length_map,hlen],by rw [List.length_map];exact f2,by omega,.inr ⟨g,0,rfl,.inr rfl,fun d hd => ?_,?_⟩⟩,.inr rfl⟩⟩
        · rcases h with h | h
          · exact .inl h
          · subst h;exact .inr ⟨f1,hg⟩
        · obtain⟨x,_,rfl⟩:=List.mem_map.1 hd;rfl
        · refine D.repE_of_repL _ _ _ _ (repL_intsU (k:=.u8) xs.flatten) (fun d hd => ?_) fun j v hj => ?_
          · obtain⟨x,_,rfl⟩:=List.mem_map.1 hd;rfl
          · rw [Nat.zero_add];have hjl:j<xs.flatten.length:=by have:=(List.getElem?_eq_some_iff.1 hj).1;rwa [List.length_map] at this
            rw [f7 j (by omega)];have e1:zs.getD j 0=xs.flatten[j]:=by
              have:=congrArg (fun l:List Int=>l[j]?) hzs;simp only [List.getElem?_take,if_pos hjl,List.getElem?_eq_getElem hjl] at this;simp [List.getD,this]
            rw [e1];rw [List.getElem?_map,List.getElem?_eq_getElem hjl] at hj;exact hj
where repL_intsU {Z:Nat→Prop} {w:World} {k:IntKind}:∀ es:List Int,D.repL Z w (es.map (eI k)) (es.map (Value.int k))
  | []=>rfl
  | x :: es=>⟨[.int k x],es.map (Value.int k),rfl,rfl,repL_intsU es⟩
def kCC (f:Nat) (t:TypeId):Sg typ:=⟨f,[.ptr 0 0 []],[(0,.box t (.st (.cons (.cst 0) (.cons .nils .nil))))],[],[],.tup .nil,[(0,some (.box t (.st (.cons (.ptr 0 0 []) (.cons .nils .nil)))))],fun _=>some ()⟩
theorem B4q (L:Lays.n240 P ρ) (X:Builder.X72 P ρ) {f:Nat} {t:TypeId} (hf:ρ.f 240=f) (ht:ρ.t 72=t):COk P (kCC f t):=by
  subst hf ht;intro x r _;show AC P _ [.ptr 0 0 []] [(0,.box (ρ.t 72) (.st [.cst (.pointer none),.nils]))] (.tup []) [(0,some (.box (ρ.t 72) (.st [.ptr 0 0 [],.nils])))];intro w σ Z cargs pre;have hob:obOf [(0,Ob.box (ρ.t 72) (.st [.cst (.pointer none),.nils]))] 0=some (some (.box (ρ.t 72) (.st [.cst (.pointer none),.nils]))):=rfl;have lv:live (obOf [(0,Ob.box (ρ.t 72) (.st [.cst (.pointer none),.nils]))]) 0:=⟨_,hob⟩;have only:∀ n,live (obOf [(0,Ob.box (ρ.t 72) (.st [.cst (.pointer none),.nils]))]) n→n=0:=fun n ⟨o,ho⟩=>by
    unfold obOf at ho;rw [A2] at ho;split at ho
    · rename_i e;exact e.symm
    · simp [look] at ho
  have only':∀ n,live (look [(0,some (Ob.box (ρ.t 72) (.st [.ptr 0 0 [],.nils])))]) n→n=0:=fun n ⟨o,ho⟩=>by
    rw [A2] at ho;split at ho
    · rename_i e;exact e.symm
    · simp [look] at ho
  match cargs,pre.args with
  | [v],⟨ha,_⟩ =>
    obtain⟨b,hσ,rfl⟩:=G3 (RepT.of ha rfl) lv;obtain⟨b',cs,h1,h2,h3,h4,h5⟩:=pre.obj 0 _ hob;obtain rfl:=Option.some.inj (hσ.symm.trans h1);obtain⟨c1,c2,e1,_,_,e4,c3,c4,e5,_,_,e6,e7⟩:=(show V.repS _ σ Z w [.cst (.pointer none),.nils] cs.toList from h5);have e4:c1=[.pointer none]:=e4.1;have e6:c3=[.slice none 0 0]:=e6;have e7:c4=[]:=e7;subst e4 e6 e7;rw [e5] at e1;have hcs:cs = #[.pointer none,.slice none 0 0]:=by
      have:=congrArg List.toArray e1;simpa using this
    subst hcs;have hlt:b<w.heap.size:=(Array.getElem?_eq_some_iff.1 h2).1;refine(Any.Builder_copyCheck_fresh L X b w (by rw [cell_of_row w b 0 _ _ _ h2];rfl) (by simp [World.shape?,h2]) (by simp [World.frozen?,h2])).mono fun e w' ⟨he,hw⟩ => ?_;have hw':w'.heap[b]? = some (.cells #[.pointer (some ⟨b,0,none⟩),.slice none 0 0] (ρ.t 72) (0,0)):=by
      rw [hw];unfold World.setCell;simp only [Array.getElem?_modify,if_true,h2,Option.map_some];rfl
    have old:∀ k,k≠b→w'.heap[k]? = w.heap[k]? :=fun k hk=>by rw [hw];exact Below.heap_setCell w _ _ k hk
    have hsz:w'.heap.size=w.heap.size:=by rw [hw];simp [World.setCell]
    refine⟨_,σ,Z,he,⟨⟨[],rfl,trivial⟩,fun n o hn => ?_,fun n m q hn hm _ _=>by rw [only' n hn,only' m hm],fun _ _ _ _=>rfl,fun n q _ hl _ hq => ?_,fun n q hl hq => ?_,fun q hq=>by rw [hsz];exact pre.zlt q hq,fun _ h=>h,fun _ h => .inl h,by rw [hw];rfl,by rw [hw];rfl,by rw [hw];rfl,by rw [hsz];exact Nat.le_refl _,fun k _ hk=>old k fun e=>hk ⟨0,lv,by rw [hσ,e]⟩⟩⟩
    · obtain rfl:=only' n ⟨o,hn⟩;have:o = .box (ρ.t 72) (.st [.ptr 0 0 [],.nils]):=by
        rw [A2,if_pos rfl] at hn;exact(Option.some.inj (Option.some.inj hn)).symm
      subst this;refine⟨b,_,hσ,hw',by simp [Value.oneCell'],rfl,⟨[.pointer (some ⟨b,0,none⟩)],[.slice none 0 0],rfl,rfl,by simp [Value.oneCell'],⟨by simp [used,A2],fun _=>⟨b,hσ,rfl⟩⟩,⟨[.slice none 0 0],[],rfl,rfl,by simp [Value.oneCell'],rfl,rfl⟩⟩⟩
    · obtain rfl:=only n hl;obtain rfl:=Option.some.inj (hσ.symm.trans hq);simp [World.shape?,hw',h2]
    · obtain rfl:=only' n hl;obtain rfl:=Option.some.inj (hσ.symm.trans hq);exact⟨pre.blk 0 b lv hσ,.inr ⟨0,lv,hσ⟩⟩
end Go.Vc
set_option maxRecDepth 100000
namespace Go.Proofs.YtalojkjpjdcibaaGreatDoor
open Go Go.Vc Go.Shelf Go.Proofs
def A68:Go.Shelf.Ren:=⟨fun | 156=>115 | 165=>175 | 166=>114 | 169=>122 | 240=>174 | 241=>216 | 276=>215 | 277=>98 | n=>n,fun | 31=>102 | 9=>9 | 3=>3 | 4=>4 | 0=>0 | 20=>20 | 72=>183 | 76=>186 | 70=>181 | 37=>52 | 75=>185 | 127=>245 | 164=>273 | 5=>5 | 80=>141 | n=>n,fun | n=>n⟩
theorem lJ:Go.Proofs.Lays.n156 Tryz.prog A68:={
  mixed:=by kernel_rfl
  f156:=Tryz.func115.trans (congrArg some (by kernel_rfl))
  f165:=Tryz.func175.trans (congrArg some (by kernel_rfl))
  f166:=Tryz.func114.trans (congrArg some (by kernel_rfl))
  f169:=Tryz.func122.trans (congrArg some (by kernel_rfl))
  f240:=Tryz.func174.trans (congrArg some (by kernel_rfl))
  f241:=Tryz.func216.trans (congrArg some (by kernel_rfl))
  f276:=Tryz.func215.trans (congrArg some (by kernel_rfl))
  f277:=Tryz.func98.trans (congrArg some (by kernel_rfl))
  t0:=Tryz.underlying0
  a0:=Tryz.isAgg0
  z0:=Tryz.sizeOf0
  v0:=Tryz.zeroValue0
  t3:=Tryz.underlying3
  a3:=Tryz.isAgg3
  z3:=Tryz.sizeOf3
  v3:=Tryz.zeroValue3
  t4:=Tryz.underlying4
  a4:=Tryz.isAgg4
  z4:=Tryz.sizeOf4
  v4:=Tryz.zeroValue4
  t9:=Tryz.underlying9
  a9:=Tryz.isAgg9
  z9:=Tryz.sizeOf9
  v9:=Tryz.zeroValue9
  t20:=Tryz.underlying20
  a20:=Tryz.isAgg20
  z20:=Tryz.sizeOf20
  v20:=Tryz.zeroValue20
  t31:=Tryz.underlying102
  a31:=Tryz.isAgg102
  z31:=Tryz.sizeOf102
  v31:=Tryz.zeroValue102
  t37:=Tryz.underlying52
  a37:=Tryz.isAgg52
  z37:=Tryz.sizeOf52
  v37:=Tryz.zeroValue52
  t70:=Tryz.underlying181
  a70:=Tryz.isAgg181
  z70:=Tryz.sizeOf181
  v70:=Tryz.zeroValue181
  t72:=Tryz.underlying183
  a72:=Tryz.isAgg183
  z72:=Tryz.sizeOf183
  v72:=Tryz.zeroValue183
  t75:=Tryz.underlying185
  a75:=Tryz.isAgg185
  z75:=Tryz.sizeOf185
  v75:=Tryz.zeroValue185
  t76:=Tryz.underlying186
  a76:=Tryz.isAgg186
  z76:=Tryz.sizeOf186
  v76:=Tryz.zeroValue186
  t127:=Tryz.underlying245
  a127:=Tryz.isAgg245
  z127:=Tryz.sizeOf245
  v127:=Tryz.zeroValue245
  t164:=Tryz.underlying273
  a164:=Tryz.isAgg273
  z164:=Tryz.sizeOf273
  v164:=Tryz.zeroValue273 }
def B4r:Go.Shelf.Ren:=⟨fun | 146=>65 | 221=>123 | 268=>180 | 138=>181 | 143=>182 | 195=>222 | 197=>223 | 218=>224 | 219=>225 | 260=>252 | 217=>253 | 225=>254 | 224=>255 | 267=>256 | 266=>272 | 314=>273 | n=>n,fun | 9=>9 | 31=>102 | 3=>3 | 4=>4 | 0=>0 | 105=>285 | 21=>21 | 5=>5 | 46=>119 | 119=>319 | 139=>322 | 138=>321 | 146=>323 | 51=>316 | n=>n,fun | 1=>1 | 3=>3 | 4=>4 | n=>n⟩
theorem lS:Go.Proofs.LaysM.n146 Tryz.prog B4r:={
  mixed:=by kernel_rfl
  f138:=Tryz.func181.trans (congrArg some (by kernel_rfl))
  f143:=Tryz.func182.trans (congrArg some (by kernel_rfl))
  f146:=Tryz.func65.trans (congrArg some (by kernel_rfl))
  f195:=Tryz.func222.trans (congrArg some (by kernel_rfl))
  f197:=Tryz.func223.trans (congrArg some (by kernel_rfl))
  f217:=Tryz.func253.trans (congrArg some (by kernel_rfl))
  f218:=Tryz.func224.trans (congrArg some (by kernel_rfl))
  f219:=Tryz.func225.trans (congrArg some (by kernel_rfl))
  f221:=Tryz.func123.trans (congrArg some (by kernel_rfl))
  f224:=Tryz.func255.trans (congrArg some (by kernel_rfl))
  f225:=Tryz.func254.trans (congrArg some (by kernel_rfl))
  f260:=Tryz.func252.trans (congrArg some (by kernel_rfl))
  f266:=Tryz.func272.trans (congrArg some (by kernel_rfl))
  f267:=Tryz.func256.trans (congrArg some (by kernel_rfl))
  f268:=Tryz.func180.trans (congrArg some (by kernel_rfl))
  f314:=Tryz.func273.trans (congrArg some (by kernel_rfl))
  t0:=Tryz.underlying0
  a0:=Tryz.isAgg0
  z0:=Tryz.sizeOf0
  v0:=Tryz.zeroValue0
  t3:=Tryz.underlying3
  a3:=Tryz.isAgg3
  z3:=Tryz.sizeOf3
  v3:=Tryz.zeroValue3
  t4:=Tryz.underlying4
  a4:=Tryz.isAgg4
  z4:=Tryz.sizeOf4
  v4:=Tryz.zeroValue4
  t5:=Tryz.underlying5
  a5:=Tryz.isAgg5
  z5:=Tryz.sizeOf5
  v5:=Tryz.zeroValue5
  t9:=Tryz.underlying9
  a9:=Tryz.isAgg9
  z9:=Tryz.sizeOf9
  v9:=Tryz.zeroValue9
  t21:=Tryz.underlying21
  a21:=Tryz.isAgg21
  z21:=Tryz.sizeOf21
  v21:=Tryz.zeroValue21
  t31:=Tryz.underlying102
  a31:=Tryz.isAgg102
  z31:=Tryz.sizeOf102
  v31:=Tryz.zeroValue102
  t46:=Tryz.underlying119
  a46:=Tryz.isAgg119
  z46:=Tryz.sizeOf119
  v46:=Tryz.zeroValue119
  t51:=Tryz.underlying316
  a51:=Tryz.isAgg316
  z51:=Tryz.sizeOf316
  v51:=Tryz.zeroValue316
  t105:=Tryz.underlying285
  a105:=Tryz.isAgg285
  z105:=Tryz.sizeOf285
  v105:=Tryz.zeroValue285
  t119:=Tryz.underlying319
  a119:=Tryz.isAgg319
  z119:=Tryz.sizeOf319
  t138:=Tryz.underlying321
  a138:=Tryz.isAgg321
  z138:=Tryz.sizeOf321
  v138:=Tryz.zeroValue321
  t139:=Tryz.underlying322
  a139:=Tryz.isAgg322
  z139:=Tryz.sizeOf322
  v139:=Tryz.zeroValue322
  t146:=Tryz.underlying323
  a146:=Tryz.isAgg323
  z146:=Tryz.sizeOf323
  v146:=Tryz.zeroValue323
  g1:=by kernel_rfl
  g3:=by kernel_rfl
  g4:=by kernel_rfl
  i0:=by kernel_rfl
  i3:=by kernel_rfl
  i4:=by kernel_rfl
  i5:=by kernel_rfl
  i9:=by kernel_rfl
  i21:=by kernel_rfl
  i31:=by kernel_rfl
  i46:=by kernel_rfl
  i51:=by kernel_rfl
  i105:=by kernel_rfl
  i138:=by kernel_rfl
  i139:=by kernel_rfl
  i146:=by kernel_rfl
  m1:=by kernel_rfl
  s1_3:=fun w h=>Go.Proofs.cell_of_shapedOpen_int (zero:=#[.int .i64 0]) (t:=3) h (of_decide_eq_true (by kernel_rfl)) (by kernel_rfl) rfl (by kernel_rfl) (by kernel_rfl) Tryz.underlying3
  m3:=by kernel_rfl
  m4:=by kernel_rfl }
def B4s:Go.Shelf.Ren:=⟨fun | 144=>227 | 143=>182 | 219=>225 | 217=>253 | 225=>254 | 224=>255 | 267=>256 | 266=>272 | 314=>273 | n=>n,fun | 9=>9 | 4=>4 | 3=>3 | 5=>5 | 46=>119 | 146=>323 | 51=>316 | n=>n,fun | 1=>1 | n=>n⟩
theorem lH:Go.Proofs.Lays.n144 Tryz.prog B4s:={
  mixed:=by kernel_rfl
  f143:=Tryz.func182.trans (congrArg some (by kernel_rfl))
  f144:=Tryz.func227.trans (congrArg some (by kernel_rfl))
  f217:=Tryz.func253.trans (congrArg some (by kernel_rfl))
  f219:=Tryz.func225.trans (congrArg some (by kernel_rfl))
  f224:=Tryz.func255.trans (congrArg some (by kernel_rfl))
  f225:=Tryz.func254.trans (congrArg some (by kernel_rfl))
  f266:=Tryz.func272.trans (congrArg some (by kernel_rfl))
  f267:=Tryz.func256.trans (congrArg some (by kernel_rfl))
  f314:=Tryz.func273.trans (congrArg some (by kernel_rfl))
  t3:=Tryz.underlying3
  a3:=Tryz.isAgg3
  z3:=Tryz.sizeOf3
  v3:=Tryz.zeroValue3
  t4:=Tryz.underlying4
  a4:=Tryz.isAgg4
  z4:=Tryz.sizeOf4
  v4:=Tryz.zeroValue4
  t5:=Tryz.underlying5
  a5:=Tryz.isAgg5
  z5:=Tryz.sizeOf5
  v5:=Tryz.zeroValue5
  t9:=Tryz.underlying9
  a9:=Tryz.isAgg9
  z9:=Tryz.sizeOf9
  v9:=Tryz.zeroValue9
  t46:=Tryz.underlying119
  a46:=Tryz.isAgg119
  z46:=Tryz.sizeOf119
  v46:=Tryz.zeroValue119
  t51:=Tryz.underlying316
  a51:=Tryz.isAgg316
  z51:=Tryz.sizeOf316
  v51:=Tryz.zeroValue316
  t146:=Tryz.underlying323
  a146:=Tryz.isAgg323
  z146:=Tryz.sizeOf323
  v146:=Tryz.zeroValue323
  g1:=by kernel_rfl }
def B4t:Go.Shelf.Ren:=⟨fun | 145=>183 | 220=>226 | 219=>225 | 217=>253 | 225=>254 | 224=>255 | 267=>256 | 266=>272 | 314=>273 | n=>n,fun | 9=>9 | 4=>4 | 59=>248 | 3=>3 | 5=>5 | 46=>119 | 146=>323 | 51=>316 | n=>n,fun | 1=>1 | n=>n⟩
theorem lC:Go.Proofs.Lays.n145 Tryz.prog B4t:={
  mixed:=by kernel_rfl
  f145:=Tryz.func183.trans (congrArg some (by kernel_rfl))
  f217:=Tryz.func253.trans (congrArg some (by kernel_rfl))
  f219:=Tryz.func225.trans (congrArg some (by kernel_rfl))
  f220:=Tryz.func226.trans (congrArg some (by kernel_rfl))
  f224:=Tryz.func255.trans (congrArg some (by kernel_rfl))
  f225:=Tryz.func254.trans (congrArg some (by kernel_rfl))
  f266:=Tryz.func272.trans (congrArg some (by kernel_rfl))
  f267:=Tryz.func256.trans (congrArg some (by kernel_rfl))
  f314:=Tryz.func273.trans (congrArg some (by kernel_rfl))
  t3:=Tryz.underlying3
  a3:=Tryz.isAgg3
  z3:=Tryz.sizeOf3
  v3:=Tryz.zeroValue3
  t4:=Tryz.underlying4
  a4:=Tryz.isAgg4
  z4:=Tryz.sizeOf4
  v4:=Tryz.zeroValue4
  t5:=Tryz.underlying5
  a5:=Tryz.isAgg5
  z5:=Tryz.sizeOf5
  v5:=Tryz.zeroValue5
  t9:=Tryz.underlying9
  a9:=Tryz.isAgg9
  z9:=Tryz.sizeOf9
  v9:=Tryz.zeroValue9
  t46:=Tryz.underlying119
  a46:=Tryz.isAgg119
  z46:=Tryz.sizeOf119
  v46:=Tryz.zeroValue119
  t51:=Tryz.underlying316
  a51:=Tryz.isAgg316
  z51:=Tryz.sizeOf316
  v51:=Tryz.zeroValue316
  t59:=Tryz.underlying248
  a59:=Tryz.isAgg248
  z59:=Tryz.sizeOf248
  v59:=Tryz.zeroValue248
  t146:=Tryz.underlying323
  a146:=Tryz.isAgg323
  z146:=Tryz.sizeOf323
  v146:=Tryz.zeroValue323
  g1:=by kernel_rfl }
def B4u:Go.Shelf.Ren:=⟨fun | 171=>118 | 243=>178 | 246=>221 | 283=>248 | 284=>249 | 285=>250 | 286=>251 | 129=>268 | 317=>267 | 318=>269 | 319=>270 | 320=>271 | 337=>283 | 338=>284 | n=>n,fun | 3=>3 | 9=>9 | 2=>2 | 4=>4 | 171=>305 | 0=>0 | 53=>27 | 37=>52 | 5=>5 | 173=>308 | 212=>315 | 51=>316 | 20=>20 | 213=>317 | 46=>119 | 232=>341 | 233=>342 | n=>n,fun | 17=>2 | 18=>7 | 19=>8 | n=>n⟩
theorem lI:Go.Proofs.LaysM.n171 Tryz.prog B4u:={
  mixed:=by kernel_rfl
  f129:=Tryz.func268.trans (congrArg some (by kernel_rfl))
  f171:=Tryz.func118.trans (congrArg some (by kernel_rfl))
  f243:=Tryz.func178.trans (congrArg some (by kernel_rfl))
  f246:=Tryz.func221.trans (congrArg some (by kernel_rfl))
  f283:=Tryz.func248.trans (congrArg some (by kernel_rfl))
  f284:=Tryz.func249.trans (congrArg some (by kernel_rfl))
  f285:=Tryz.func250.trans (congrArg some (by kernel_rfl))
  f286:=Tryz.func251.trans (congrArg some (by kernel_rfl))
  f317:=Tryz.func267.trans (congrArg some (by kernel_rfl))
  f318:=Tryz.func269.trans (congrArg some (by kernel_rfl))
  f319:=Tryz.func270.trans (congrArg some (by kernel_rfl))
  f320:=Tryz.func271.trans (congrArg some (by kernel_rfl))
  f337:=Tryz.func283.trans (congrArg some (by kernel_rfl))
  f338:=Tryz.func284.trans (congrArg some (by kernel_rfl))
  t0:=Tryz.underlying0
  a0:=Tryz.isAgg0
  z0:=Tryz.sizeOf0
  v0:=Tryz.zeroValue0
  t2:=Tryz.underlying2
  a2:=Tryz.isAgg2
  z2:=Tryz.sizeOf2
  v2:=Tryz.zeroValue2
  t3:=Tryz.underlying3
  a3:=Tryz.isAgg3
  z3:=Tryz.sizeOf3
  v3:=Tryz.zeroValue3
  t4:=Tryz.underlying4
  a4:=Tryz.isAgg4
  z4:=Tryz.sizeOf4
  v4:=Tryz.zeroValue4
  t5:=Tryz.underlying5
  a5:=Tryz.isAgg5
  z5:=Tryz.sizeOf5
  v5:=Tryz.zeroValue5
  t9:=Tryz.underlying9
  a9:=Tryz.isAgg9
  z9:=Tryz.sizeOf9
  v9:=Tryz.zeroValue9
  t20:=Tryz.underlying20
  a20:=Tryz.isAgg20
  z20:=Tryz.sizeOf20
  v20:=Tryz.zeroValue20
  t37:=Tryz.underlying52
  a37:=Tryz.isAgg52
  z37:=Tryz.sizeOf52
  v37:=Tryz.zeroValue52
  t46:=Tryz.underlying119
  a46:=Tryz.isAgg119
  z46:=Tryz.sizeOf119
  v46:=Tryz.zeroValue119
  t51:=Tryz.underlying316
  a51:=Tryz.isAgg316
  z51:=Tryz.sizeOf316
  v51:=Tryz.zeroValue316
  t53:=Tryz.underlying27
  a53:=Tryz.isAgg27
  z53:=Tryz.sizeOf27
  v53:=Tryz.zeroValue27
  t171:=Tryz.underlying305
  a171:=Tryz.isAgg305
  z171:=Tryz.sizeOf305
  v171:=Tryz.zeroValue305
  t173:=Tryz.underlying308
  a173:=Tryz.isAgg308
  z173:=Tryz.sizeOf308
  v173:=Tryz.zeroValue308
  t212:=Tryz.underlying315
  a212:=Tryz.isAgg315
  z212:=Tryz.sizeOf315
  v212:=Tryz.zeroValue315
  t213:=Tryz.underlying317
  a213:=Tryz.isAgg317
  z213:=Tryz.sizeOf317
  t232:=Tryz.underlying341
  a232:=Tryz.isAgg341
  z232:=Tryz.sizeOf341
  v232:=Tryz.zeroValue341
  t233:=Tryz.underlying342
  a233:=Tryz.isAgg342
  z233:=Tryz.sizeOf342
  v233:=Tryz.zeroValue342
  g17:=by kernel_rfl
  g18:=by kernel_rfl
  g19:=by kernel_rfl
  i0:=by kernel_rfl
  i2:=by kernel_rfl
  i3:=by kernel_rfl
  i4:=by kernel_rfl
  i5:=by kernel_rfl
  i9:=by kernel_rfl
  i20:=by kernel_rfl
  i37:=by kernel_rfl
  i46:=by kernel_rfl
  i51:=by kernel_rfl
  i53:=by kernel_rfl
  i171:=by kernel_rfl
  i173:=by kernel_rfl
  i212:=by kernel_rfl
  i232:=by kernel_rfl
  i233:=by kernel_rfl
  m17:=by kernel_rfl
  m18:=by kernel_rfl
  m19:=by kernel_rfl }
def B4v:Go.Shelf.Ren:=⟨fun | 172=>230 | 244=>258 | 245=>259 | 247=>275 | 279=>276 | 280=>277 | 281=>278 | 282=>279 | 287=>285 | 316=>286 | 171=>118 | 205=>287 | 321=>289 | 322=>290 | 243=>178 | 246=>221 | 283=>248 | 284=>249 | 285=>250 | 286=>251 | 129=>268 | 317=>267 | 318=>269 | 319=>270 | 320=>271 | 337=>283 | 338=>284 | n=>n,fun | 9=>9 | 3=>3 | 75=>185 | 76=>186 | 4=>4 | 5=>5 | 167=>327 | 37=>52 | 0=>0 | 85=>328 | 2=>2 | 168=>330 | 53=>27 | 175=>335 | 46=>119 | 210=>338 | 127=>245 | 145=>346 | 143=>344 | 21=>21 | 171=>305 | 173=>308 | 212=>315 | 51=>316 | 20=>20 | 213=>317 | 232=>341 | 233=>342 | 80=>141 | n=>n,fun | 15=>5 | 16=>6 | 17=>2 | 18=>7 | 19=>8 | n=>n⟩
theorem lA:Go.Proofs.LaysC.n172 Tryz.prog B4v:={
  mixed:=by kernel_rfl
  f129:=Tryz.func268.trans (congrArg some (by kernel_rfl))
  f171:=Tryz.func118.trans (congrArg some (by kernel_rfl))
  f172:=Tryz.func230.trans (congrArg some (by kernel_rfl))
  f205:=Tryz.func287.trans (congrArg some (by kernel_rfl))
  f243:=Tryz.func178.trans (congrArg some (by kernel_rfl))
  f244:=Tryz.func258.trans (congrArg some (by kernel_rfl))
  f245:=Tryz.func259.trans (congrArg some (by kernel_rfl))
  f246:=Tryz.func221.trans (congrArg some (by kernel_rfl))
  f247:=Tryz.func275.trans (congrArg some (by kernel_rfl))
  f279:=Tryz.func276.trans (congrArg some (by kernel_rfl))
  f280:=Tryz.func277.trans (congrArg some (by kernel_rfl))
  f281:=Tryz.func278.trans (congrArg some (by kernel_rfl))
  f282:=Tryz.func279.trans (congrArg some (by kernel_rfl))
  f283:=Tryz.func248.trans (congrArg some (by kernel_rfl))
  f284:=Tryz.func249.trans (congrArg some (by kernel_rfl))
  f285:=Tryz.func250.trans (congrArg some (by kernel_rfl))
  f286:=Tryz.func251.trans (congrArg some (by kernel_rfl))
  f287:=Tryz.func285.trans (congrArg some (by kernel_rfl))
  f316:=Tryz.func286.trans (congrArg some (by kernel_rfl))
  f317:=Tryz.func267.trans (congrArg some (by kernel_rfl))
  f318:=Tryz.func269.trans (congrArg some (by kernel_rfl))
  f319:=Tryz.func270.trans (congrArg some (by kernel_rfl))
  f320:=Tryz.func271.trans (congrArg some (by kernel_rfl))
  f321:=Tryz.func289.trans (congrArg some (by kernel_rfl))
  f322:=Tryz.func290.trans (congrArg some (by kernel_rfl))
  f337:=Tryz.func283.trans (congrArg some (by kernel_rfl))
  f338:=Tryz.func284.trans (congrArg some (by kernel_rfl))
  t0:=Tryz.underlying0
  a0:=Tryz.isAgg0
  z0:=Tryz.sizeOf0
  v0:=Tryz.zeroValue0
  t2:=Tryz.underlying2
  a2:=Tryz.isAgg2
  z2:=Tryz.sizeOf2
  v2:=Tryz.zeroValue2
  t3:=Tryz.underlying3
  a3:=Tryz.isAgg3
  z3:=Tryz.sizeOf3
  v3:=Tryz.zeroValue3
  t4:=Tryz.underlying4
  a4:=Tryz.isAgg4
  z4:=Tryz.sizeOf4
  v4:=Tryz.zeroValue4
  t5:=Tryz.underlying5
  a5:=Tryz.isAgg5
  z5:=Tryz.sizeOf5
  v5:=Tryz.zeroValue5
  t9:=Tryz.underlying9
  a9:=Tryz.isAgg9
  z9:=Tryz.sizeOf9
  v9:=Tryz.zeroValue9
  t20:=Tryz.underlying20
  a20:=Tryz.isAgg20
  z20:=Tryz.sizeOf20
  v20:=Tryz.zeroValue20
  t21:=Tryz.underlying21
  a21:=Tryz.isAgg21
  z21:=Tryz.sizeOf21
  v21:=Tryz.zeroValue21
  t37:=Tryz.underlying52
  a37:=Tryz.isAgg52
  z37:=Tryz.sizeOf52
  v37:=Tryz.zeroValue52
  t46:=Tryz.underlying119
  a46:=Tryz.isAgg119
  z46:=Tryz.sizeOf119
  v46:=Tryz.zeroValue119
  t51:=Tryz.underlying316
  a51:=Tryz.isAgg316
  z51:=Tryz.sizeOf316
  v51:=Tryz.zeroValue316
  t53:=Tryz.underlying27
  a53:=Tryz.isAgg27
  z53:=Tryz.sizeOf27
  v53:=Tryz.zeroValue27
  t75:=Tryz.underlying185
  a75:=Tryz.isAgg185
  z75:=Tryz.sizeOf185
  v75:=Tryz.zeroValue185
  t76:=Tryz.underlying186
  a76:=Tryz.isAgg186
  z76:=Tryz.sizeOf186
  v76:=Tryz.zeroValue186
  t85:=Tryz.underlying328
  a85:=Tryz.isAgg328
  z85:=Tryz.sizeOf328
  v85:=Tryz.zeroValue328
  t127:=Tryz.underlying245
  a127:=Tryz.isAgg245
  z127:=Tryz.sizeOf245
  v127:=Tryz.zeroValue245
  t143:=Tryz.underlying344
  a143:=Tryz.isAgg344
  z143:=Tryz.sizeOf344
  v143:=Tryz.zeroValue344
  t145:=Tryz.underlying346
  a145:=Tryz.isAgg346
  z145:=Tryz.sizeOf346
  v145:=Tryz.zeroValue346
  t167:=Tryz.underlying327
  a167:=Tryz.isAgg327
  z167:=Tryz.sizeOf327
  v167:=Tryz.zeroValue327
  t168:=Tryz.underlying330
  a168:=Tryz.isAgg330
  z168:=Tryz.sizeOf330
  v168:=Tryz.zeroValue330
  t171:=Tryz.underlying305
  a171:=Tryz.isAgg305
  z171:=Tryz.sizeOf305
  v171:=Tryz.zeroValue305
  t173:=Tryz.underlying308
  a173:=Tryz.isAgg308
  z173:=Tryz.sizeOf308
  v173:=Tryz.zeroValue308
  t175:=Tryz.underlying335
  a175:=Tryz.isAgg335
  z175:=Tryz.sizeOf335
  v175:=Tryz.zeroValue335
  t210:=Tryz.underlying338
  a210:=Tryz.isAgg338
  z210:=Tryz.sizeOf338
  v210:=Tryz.zeroValue338
  t212:=Tryz.underlying315
  a212:=Tryz.isAgg315
  z212:=Tryz.sizeOf315
  v212:=Tryz.zeroValue315
  t213:=Tryz.underlying317
  a213:=Tryz.isAgg317
  z213:=Tryz.sizeOf317
  t232:=Tryz.underlying341
  a232:=Tryz.isAgg341
  z232:=Tryz.sizeOf341
  v232:=Tryz.zeroValue341
  t233:=Tryz.underlying342
  a233:=Tryz.isAgg342
  z233:=Tryz.sizeOf342
  v233:=Tryz.zeroValue342
  g15:=by kernel_rfl
  g16:=by kernel_rfl
  g17:=by kernel_rfl
  g18:=by kernel_rfl
  g19:=by kernel_rfl
  t80:=Tryz.underlying141
  a80:=Tryz.isAgg141
  z80:=Tryz.sizeOf141
  v80:=Tryz.zeroValue141
  i0:=by kernel_rfl
  i2:=by kernel_rfl
  i3:=by kernel_rfl
  i4:=by kernel_rfl
  i5:=by kernel_rfl
  i9:=by kernel_rfl
  i20:=by kernel_rfl
  i21:=by kernel_rfl
  i37:=by kernel_rfl
  i46:=by kernel_rfl
  i51:=by kernel_rfl
  i53:=by kernel_rfl
  i75:=by kernel_rfl
  i76:=by kernel_rfl
  i80:=by kernel_rfl
  i85:=by kernel_rfl
  i127:=by kernel_rfl
  i143:=by kernel_rfl
  i145:=by kernel_rfl
  i167:=by kernel_rfl
  i168:=by kernel_rfl
  i171:=by kernel_rfl
  i173:=by kernel_rfl
  i175:=by kernel_rfl
  i210:=by kernel_rfl
  i212:=by kernel_rfl
  i232:=by kernel_rfl
  i233:=by kernel_rfl
  m15:=by kernel_rfl
  m16:=by kernel_rfl
  m17:=by kernel_rfl
  m18:=by kernel_rfl
  m19:=by kernel_rfl
  c0:=by kernel_rfl
  c2:=by kernel_rfl
  c3:=by kernel_rfl
  c4:=by kernel_rfl
  c5:=by kernel_rfl
  c9:=by kernel_rfl
  c20:=by kernel_rfl
  c21:=by kernel_rfl
  c37:=by kernel_rfl
  c46:=by kernel_rfl
  c51:=by kernel_rfl
  c53:=by kernel_rfl
  c75:=by kernel_rfl
  c76:=by kernel_rfl
  c80:=by kernel_rfl
  c85:=by kernel_rfl
  c127:=by kernel_rfl
  c143:=by kernel_rfl
  c145:=by kernel_rfl
  c167:=by kernel_rfl
  c168:=by kernel_rfl
  c171:=by kernel_rfl
  c173:=by kernel_rfl
  c175:=by kernel_rfl
  c210:=by kernel_rfl
  c212:=by kernel_rfl
  c213:=by kernel_rfl
  c232:=by kernel_rfl
  c233:=by kernel_rfl }
def B4w:Go.Shelf.Ren:=⟨fun | 14=>53 | 15=>98 | n=>n,fun | 26=>124 | 22=>52 | 3=>3 | 4=>4 | 0=>0 | 9=>9 | 20=>20 | 5=>5 | n=>n,fun | n=>n⟩
theorem lB:Go.Proofs.SlLaysJ.n14 Tryz.prog B4w:={
  mixed:=by kernel_rfl
  f14:=Tryz.func53.trans (congrArg some (by kernel_rfl))
  f15:=Tryz.func98.trans (congrArg some (by kernel_rfl))
  t0:=Tryz.underlying0
  a0:=Tryz.isAgg0
  z0:=Tryz.sizeOf0
  v0:=Tryz.zeroValue0
  t3:=Tryz.underlying3
  a3:=Tryz.isAgg3
  z3:=Tryz.sizeOf3
  v3:=Tryz.zeroValue3
  t4:=Tryz.underlying4
  a4:=Tryz.isAgg4
  z4:=Tryz.sizeOf4
  v4:=Tryz.zeroValue4
  t9:=Tryz.underlying9
  a9:=Tryz.isAgg9
  z9:=Tryz.sizeOf9
  v9:=Tryz.zeroValue9
  t20:=Tryz.underlying20
  a20:=Tryz.isAgg20
  z20:=Tryz.sizeOf20
  v20:=Tryz.zeroValue20
  t22:=Tryz.underlying52
  a22:=Tryz.isAgg52
  z22:=Tryz.sizeOf52
  v22:=Tryz.zeroValue52
  t26:=Tryz.underlying124
  a26:=Tryz.isAgg124
  z26:=Tryz.sizeOf124
  v26:=Tryz.zeroValue124
  t5:=Tryz.underlying5
  z5:=Tryz.sizeOf5
  i5:=by kernel_rfl }
theorem xJ:Builder.Extra Tryz.prog A68 where
  sizeBuilder:=by kernel_rfl
  liesBuilder:=by kernel_rfl
  t5:=Tryz.underlying5
  a5:=Tryz.isAgg5
  z5:=Tryz.sizeOf5
  v5:=Tryz.zeroValue5
  infoByte:=by kernel_rfl
  cellsByte:=by kernel_rfl
  sizeByte:=by kernel_rfl
  neB5:=by decide
noncomputable def k115:Sg typ:=kJoin 115
theorem o115:COk Tryz.prog k115:=B17 lJ xJ rfl
noncomputable def k65:Sg typ:=kSplit 65 1
theorem o65:COk Tryz.prog k65:=A9h lS rfl rfl
noncomputable def k227:Sg typ:=kHas 227 1
theorem o227:COk Tryz.prog k227:=B2z lH rfl rfl
noncomputable def k183:Sg typ:=kCut 183 1
theorem o183:COk Tryz.prog k183:=B30 lC rfl rfl
noncomputable def k118:Sg typ:=kItoa 118 2
theorem o118:COk Tryz.prog k118:=B18 lI rfl (by kernel_rfl)
noncomputable def k230:Sg typ:=kAtoi 230
theorem o230:COk Tryz.prog k230:=B19 lA rfl
noncomputable def k53:Sg typ:=kBJoin 53
theorem o53:COk Tryz.prog k53:=A9l lB rfl
noncomputable def k174:Sg typ:=kCC 174 183
theorem o174:COk Tryz.prog k174:=B4q (ρ:=A68) { lJ with } xJ.toX72 rfl rfl
end Go.Proofs.YtalojkjpjdcibaaGreatDoor
