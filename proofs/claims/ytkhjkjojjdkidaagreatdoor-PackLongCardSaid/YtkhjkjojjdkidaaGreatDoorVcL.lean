/- Optional values behind guards; equality; joins of ways; words for the plain side. -/
import Derived.Test.YtkhjkjojjdkidaaGreatDoorVcK
namespace Go.Vc
open Go
variable {P:Program} {B:Base} {ops:Array Oper}
theorem OpJ.val {o:Oper} {nt:List (Nat×V)} {no:List (Nat×Ob)} {nf:List Nat} {d:Nat} {v v':V} {wo:OL} (e:v=v') (h:OpJ P B ops o { nt,no,nf,wt:=[(d,v)],wo }):OpJ P B ops o { nt,no,nf,wt:=[(d,v')],wo }:=e ▸ h
section
variable {d:Nat} {ty:TypeId} {pos:String} {af:Array Edge} {nt nt':List (Nat×V)} {x y c:Operand}
def V.isOpt:V→Bool
 | .opt .. => true
 | _=>false
inductive OptL (g:Bool):List (Nat×V)→List (Nat×V)→Prop
 | nil:OptL g [] []
 | keep {t:Nat} {v:V} {l l':List (Nat×V)}:v.isOpt=false→OptL g l l'→OptL g ((t,v) :: l) ((t,v) :: l')
 | opt {t:Nat} {v:V} {l l':List (Nat×V)}:OptL g l l'→OptL g ((t,v) :: l) ((t,.opt g v) :: l')
def deopt (env:Env):Env:=fun k=>match env k with
 | some (.opt true x)=>some x
 | o=>o
theorem B0u {env:Env} {k:Nat} {v:V} (h:env k=some v) (hv:v.isOpt=false):deopt env k=some v:=by
 unfold deopt;rw [h];cases v<;>simp_all [V.isOpt]
theorem A9m {env:Env} {k:Nat} {v:V} (h:env k=some (.opt true v)):deopt env k=some v:=by
 unfold deopt;rw [h]
theorem OptL.needs {env:Env}:∀ {l l':List (Nat×V)},OptL true l l'→(∀ p∈l',env p.1=some p.2)→∀ p∈l,deopt env p.1=some p.2
 | _,_,.nil,_,_,h=>by cases h
 | _,_,.keep hv h,hn,p,hp=>by
  rcases List.mem_cons.1 hp with hp | hp
  ·subst hp;exact B0u (hn _ (List.mem_cons_self ..)) hv
  ·exact h.needs (fun q hq=>hn q (List.mem_cons_of_mem _ hq)) p hp
 | _,_,.opt h,hn,p,hp=>by
  rcases List.mem_cons.1 hp with hp | hp
  ·subst hp;exact A9m (hn _ (List.mem_cons_self ..))
  ·exact h.needs (fun q hq=>hn q (List.mem_cons_of_mem _ hq)) p hp
theorem RepV.notTop {ob:Obs} {σ:Nat→Option Nat} {Z:Nat→Prop} {w:World} {v:Value} {x:V} (h:RepV ob σ Z w v x):x.isTop=false:=by
 cases x with
 | tup xs=>simp [RepV,V.isAgg,V.rep] at h
 | opt g y=>simp [RepV,V.isAgg,V.rep] at h
 | _=>rfl
theorem Sim.deopt {env:Env} {ob:Obs} {a:Act} {w:World} {σ:Nat→Option Nat} {Z:Nat→Prop} (s:Sim B env ob a w σ Z):Sim B (deopt env) ob a w σ Z:=by
 refine { s with env:=?_ }
 intro k x hk
 unfold Vc.deopt at hk
 cases he:env k with
 | none=>rw [he] at hk;cases hk
 | some y =>
  obtain⟨v,h1,h2⟩:=s.env k y he
  rw [he] at hk
  by_cases hy:∃ z,y = .opt true z
  ·obtain⟨z,rfl⟩:=hy
   simp only [Option.some.injEq] at hk
   subst hk
   exact⟨v,h1,RepT.of (h2.1 rfl) (h2.1 rfl).notTop⟩
  ·have:y=x:=by
    cases y with
    | opt g z=>cases g with
     | true=>exact absurd ⟨z,rfl⟩ hy
     | false=>simpa using hk
    | _=>simpa using hk
   subst this
   exact⟨v,h1,h2⟩
def boolOf:Value→Option Bool
 | .bool b=>some b
 | _=>none
inductive GuardV (want:Bool):V→Bool→Prop
 | plain (b:Bool):GuardV want (.d (.bool b)) (b==want)
 | opt (g b:Bool):GuardV want (.opt g (.d (.bool b))) (g&&(b==want))
theorem OpJ.opt {op:Op} {α:Eff} {v:V} {j gt:Nat} {want:Bool} {gv:V} {g:Bool} (hgd:(ops[j]?).bind (·.dst)=some gt) (hgv:GuardV want gv g) (hN:d<B.N) (hv:v.isTop=false) (hwt:α.wt=[(d,v)]) (hwo:α.wo=[]) (hnf:α.nf=[]) (hl:OptL g α.nt nt')
  (h:OpJ P B ops ⟨some d,op,ty,pos,af,none⟩ α):OpJ P B ops ⟨some d,op,ty,pos,af,some (j,want)⟩ { nt:=(gt,gv) :: nt',no:=α.no,wt:=[(d,.opt g v)] }:=by
 intro Q env ob a w σ Z K s hn hK
 have hg:=hn.1 (gt,gv) (List.mem_cons_self ..)
 have hn':∀ p∈nt',env p.1=some p.2:=fun p hp=>hn.1 p (List.mem_cons_of_mem _ hp)
 obtain⟨cv,hcv,hrep⟩:=s.env gt gv hg
 have hw:Region.wanted (⟨some d,op,ty,pos,af,some (j,want)⟩:Oper) (yielded ops a.tmps)=g:=by
  have hy:yielded ops a.tmps j=boolOf cv:=by
   simp only [yielded,hgd,Option.bind_some,hcv]
   cases cv<;>rfl
  simp only [Region.wanted,hy]
  cases hgv with
  | plain b =>
   have:=L5 hrep
   subst this
   rfl
  | opt g0 b =>
   cases g0 with
   | true =>
    have:cv = .bool b:=by
     have:=And.left (hrep.1 rfl)
     simpa [V.rep,D.rep] using this
    subst this
    simp [boolOf]
   | false =>
    have:=hrep.2 rfl
    subst this
    rfl
 cases g with
 | true =>
  rw [if_pos hw]
  have hrun:=h Q (Vc.deopt env) ob a w σ Z K s.deopt ⟨hl.needs hn',hn.2.1,fun n hm=>by rw [hnf] at hm;cases hm⟩ fun a' w' σ' Z' s'=>by
   refine hK a' w' σ' Z' ?_
   rw [N2 _ hwt,G4 _ hwo] at s'
   rw [N2 _ rfl,G4 _ rfl]
   refine { s' with env:=fun k q hk => ?_ }
   unfold upd at hk
   by_cases he:k=d
   ·rw [if_pos he] at hk
    cases hk
    obtain⟨u,h1,h2⟩:=s'.env k v (by simp [upd,he])
    exact⟨u,h1,⟨fun _=>h2.to hv,fun e=>by cases e⟩⟩
   ·rw [if_neg he] at hk
    by_cases hq:∃ z,q = .opt true z
    ·obtain⟨z,rfl⟩:=hq
     obtain⟨u,h1,h2⟩:=s'.env k z (by simp only [upd,if_neg he];exact A9m hk)
     obtain⟨u',h1',h2'⟩:=s.env k _ hk
     exact⟨u,h1,⟨fun _=>h2.to (h2'.1 rfl).notTop,fun e=>by cases e⟩⟩
    ·have:Vc.deopt env k=some q:=by
      unfold Vc.deopt;rw [hk]
      cases q with
      | opt g z=>cases g with
       | true=>exact absurd ⟨z,rfl⟩ hq
       | false=>rfl
      | _=>rfl
     exact s'.env k q (by simp only [upd,if_neg he];exact this)
  rw [if_pos (by simp [Region.wanted])] at hrun
  exact hrun
 | false =>
  rw [if_neg (by rw [hw];simp)]
  refine hK _ _ σ Z ?_
  rw [N2 _ rfl,G4 _ rfl]
  exact s.put hN ⟨(fun e=>by cases e),fun _=>rfl⟩
theorem OpJ.pickOr {b z g:Bool} (hg:g=(b==false)) (hN:d<B.N) (hc:Opd c (.d (.bool b)) nt) (hy:Opd y (.opt g (.d (.bool z))) nt') :
  OpJ P B ops ⟨some d,.pick c (.const (.bool true)) y,ty,pos,af,none⟩ { nt:=nt++nt',wt:=[(d,.d (.bool (b || z)))] } :=
 OpJ.pure rfl rfl hN fun env ob a w σ Z s h=>by
  obtain⟨h1,h2⟩:=E7 h
  have e1:=L5 (hc B env ob a w σ Z s h1)
  have e2:=hy B env ob a w σ Z s h2
  subst hg
  cases b with
  | true =>
   have e0:a.eval (.const (.bool true)) = .bool true:=rfl
   exact⟨.bool true,by simp [execOp,e1,e0,asBool],O4 _⟩
  | false =>
   have:a.eval y = .bool z:=by simpa [V.rep,D.rep] using And.left (e2.1 rfl)
   exact⟨.bool z,by simp [execOp,e1,asBool,this],by simpa using O4 z⟩
theorem OpJ.pickAnd {b z g:Bool} (hg:g=(b==true)) (hN:d<B.N) (hc:Opd c (.d (.bool b)) nt) (hy:Opd y (.opt g (.d (.bool z))) nt') :
  OpJ P B ops ⟨some d,.pick c y (.const (.bool false)),ty,pos,af,none⟩ { nt:=nt++nt',wt:=[(d,.d (.bool (b&&z)))] } :=
 OpJ.pure rfl rfl hN fun env ob a w σ Z s h=>by
  obtain⟨h1,h2⟩:=E7 h
  have e1:=L5 (hc B env ob a w σ Z s h1)
  have e2:=hy B env ob a w σ Z s h2
  subst hg
  cases b with
  | false =>
   have e0:a.eval (.const (.bool false)) = .bool false:=rfl
   exact⟨.bool false,by simp [execOp,e1,e0,asBool],O4 _⟩
  | true =>
   have:a.eval y = .bool z:=by simpa [V.rep,D.rep] using And.left (e2.1 rfl)
   exact⟨.bool z,by simp [execOp,e1,asBool,this],by simpa using O4 z⟩
end
-- equality of values without memory
mutual
def D.beq:D→D→Bool
 | .bool a,.bool b=>a==b
 | .int _ a,.int _ b=>a==b
 | .str a,.str b=>a==b
 | .st xs,.st ys=>D.beqL xs ys
 | .arr _ _ xs,.arr _ _ ys=>D.beqL xs ys
 | _,_=>false
def D.beqL:List D→List D→Bool
 | [],[]=>true
 | x :: xs,y :: ys=>D.beq x y&&D.beqL xs ys
 | _,_=>false
end
-- joins
section
variable {Q:Exit→EL→OL→Prop} {E E':EL} {O O':OL}
def Into (B:Base) (Q:Exit→EL→OL→Prop) (E':EL) (O':OL):Prop:=∀ (E:EL) (O:OL),Mat B E O E' O'→Q .normal E O
def jn {M T:Type} (rest:M→Option T) (body:(M→Option T)→Option T):Option T:=body rest
theorem AWp.cut {M T:Type} {c:Code} {rest:M→Option T} {body:(M→Option T)→Option T} {r:T} (h:jn rest body=some r) (pe:M→EL) (po:M→OL) (hj:∀ m,rest m=some r→Into B Q (pe m) (po m))
  (hb:∀ j:M→Option T,(∀ m,j m=some r→Into B Q (pe m) (po m))→body j=some r→AWp P B c Q E O):AWp P B c Q E O:=hb rest hj h
theorem A0 {y:Code} (h:AWp P B y Q E O):seqQ P B y Q .normal E O:=h
theorem B3 {y:Code} (h:Q .ret E O):seqQ P B y Q .ret E O:=h
theorem D8 {y:Code} {i:Nat} (h:Q (.exit i) E O):seqQ P B y Q (.exit i) E O:=h
theorem D7 {i:Nat} (h:Q .normal E O):blkQ i Q .normal E O:=h
theorem D4 {i:Nat} (h:Q .ret E O):blkQ i Q .ret E O:=h
theorem C3 {i:Nat} (h:Q .normal E O):blkQ i Q (.exit i) E O:=by simp only [blkQ,if_true];exact h
theorem Mat.coe {k:Nat} {v:V} {y:D} (hk:look E k=some v) (hc:Co v y):Mat B E O ((k,.d y) :: E) O:=fun a w σ Z s=>⟨σ,Z,by
  refine { s with env:=?_ }
  intro j x hj
  rw [A8e] at hj
  unfold upd at hj
  by_cases he:j=k
  ·rw [if_pos he] at hj
   cases hj
   obtain⟨u,h1,h2⟩:=s.env k v hk
   exact⟨u,by rw [he];exact h1,hc.repT h2⟩
  ·rw [if_neg he] at hj
   exact s.env j x hj⟩
end
-- words for the plain side
def idx {α:Type} (xs:List α) (i:Int):Option α:=if 0≤i then xs[i.toNat]? else none
theorem E9 {α:Type} {xs:List α} {i:Int} {x:α} (h:idx xs i=some x):0≤i∧xs[i.toNat]? = some x:=by
 unfold idx at h;split at h
 ·rename_i h0;exact⟨h0,h⟩
 ·cases h
theorem Q3 {α β:Type} {xs:List α} {n:Nat} {x:α} (f:α→β) (h:xs[n]? = some x):(xs.map f)[n]? = some (f x):=by rw [List.getElem?_map,h];rfl
theorem B08 {α:Type} {xs:List α} {i:Int} {x:α} (h:idx xs i=some x):i.toNat<xs.length:=(List.getElem?_eq_some_iff.1 (E9 h).2).1
def chk {α:Type} (p:Bool) (k:Option α):Option α:=if p then k else none
theorem B6 {α:Type} {p:Bool} {k:Option α} {y:α} (h:chk p k=some y):p=true∧k=some y:=by
 unfold chk at h;cases p<;>simp_all
theorem A4 {α:Type} {b:Bool} {x y r:α} (hb:b=true) (h:(if b=true then x else y)=r):x=r:=by rw [if_pos hb] at h;exact h
theorem A5 {α:Type} {b:Bool} {x y r:α} (hb:b=false) (h:(if b=true then x else y)=r):y=r:=by rw [if_neg (by rw [hb];simp)] at h;exact h
theorem bindS {α β:Type} {o:Option α} {f:α→Option β} {y:β} (h:o.bind f=some y):∃ x,o=some x∧f x=some y:=Option.bind_eq_some_iff.1 h
def iter {S X:Type} (tb:S→Option (X⊕S)):Nat→S→Option X
 | 0,_=>none
 | n+1,s=>(tb s).bind fun
  | .inr s'=>iter tb n s'
  | .inl x=>some x
open Classical in
noncomputable def loop {S X:Type} (tb:S→Option (X⊕S)) (s:S):Option X:=if h:∃ n x,iter tb n s=some x then some (Classical.choose (Classical.choose_spec h)) else none
theorem A5d {S X:Type} {tb:S→Option (X⊕S)} {s:S} {x:X} (h:loop tb s=some x):∃ n,iter tb n s=some x:=by
 unfold loop at h
 split at h
 ·rename_i hx
  refine⟨Classical.choose hx,?_⟩
  rw [Classical.choose_spec (Classical.choose_spec hx),h]
 ·cases h
theorem A9n {S X:Type} {tb:S→Option (X⊕S)}:∀ (n:Nat) (s:S) (x:X),iter tb n s=some x→iter tb (n+1) s=some x
 | 0,_,_,h=>by cases h
 | n+1,s,x,h=>by
  rw [iter] at h ⊢
  obtain⟨y,h1,h2⟩:=bindS h
  rw [h1]
  cases y with
  | inl z=>exact h2
  | inr s'=>exact A9n n s' x h2
theorem B2p {S X:Type} {tb:S→Option (X⊕S)} {n m:Nat} {s:S} {x:X} (hm:n≤m) (h:iter tb n s=some x):iter tb m s=some x:=by
 induction m with
 | zero=>rw [Nat.le_zero.1 hm] at h;exact h
 | succ m ih =>
  rcases Nat.lt_or_ge m n with h1 | h1
  ·rwa [show m+1=n from by omega]
  ·exact A9n m s x (ih h1)
theorem B09 {S X:Type} {tb:S→Option (X⊕S)} {n:Nat} {s:S} {x:X} (h:iter tb n s=some x):loop tb s=some x:=by
 unfold loop
 have hx:∃ n x,iter tb n s=some x:=⟨n,x,h⟩
 rw [dif_pos hx]
 have h2:=Classical.choose_spec (Classical.choose_spec hx)
 have e1:=B2p (Nat.le_max_left n (Classical.choose hx)) h
 have e2:=B2p (Nat.le_max_right n (Classical.choose hx)) h2
 rw [e1] at e2
 exact congrArg some (Option.some.inj e2).symm
theorem A4u {S X:Type} {tb:S→Option (X⊕S)} {s:S} {x:X} (h:tb s=some (.inl x)):loop tb s=some x:=B09 (n:=1) (by simp [iter,h])
theorem A6l {S X:Type} {tb:S→Option (X⊕S)} {s s':S} {x:X} (h:tb s=some (.inr s')) (h':loop tb s'=some x):loop tb s=some x:=by
 obtain⟨n,hn⟩:=A5d h'
 exact B09 (n:=n+1) (by simp [iter,h,hn])
theorem B5l {S X:Type} (tb:S→Option (X⊕S)) (n:Nat) (s:S):iter tb n s=(Nat.rec (motive:=fun _=>S→Option X) (fun _=>none) (fun _ ih s=>(tb s).bind fun | .inr s'=>ih s' | .inl x=>some x) n:S→Option X) s:=by
 induction n generalizing s with
 | zero=>rfl
 | succ n ih =>
  rw [iter]
  congr 1
  funext y
  cases y with
  | inl x=>rfl
  | inr s'=>exact ih s'
section
variable {Q:Exit→EL→OL→Prop} {E:EL} {O:OL}
theorem AWp.loopS {S X:Type} {c:Code} (tb:S→Option (X⊕S)) (pe:S→EL) (po:S→OL) (RX:X→Exit→EL→OL→Prop) {s:S} {x:X} (hl:Vc.loop tb s=some x)
  (hround:∀ s y,tb s=some y→AWp P B c (fun e E' O'=>match y with | .inr s'=>e = .normal∧Mat B E' O' (pe s') (po s') | .inl x=>e ≠ .normal∧RX x e E' O') (pe s) (po s))
  (hq:∀ e E' O',RX x e E' O'→Q e E' O'):AWp P B (.loop c) Q (pe s) (po s):=by
 obtain⟨n,hn⟩:=A5d hl
 rw [B5l] at hn
 exact(AWp.loop tb pe po hround n s x hn).mono hq
end
theorem ltN {B:Base} {n d:Nat} (hN:B.N=n) (h:Nat.blt d n=true):d<B.N:=by
 rw [hN];exact Nat.le_of_ble_eq_true h
def eB (b:Bool):D:=.bool b
def eI (k:IntKind) (n:Int):D:=.int k n
def eS (s:List UInt8):D:=.str s
def w64 (n:Int):Int:=IntKind.i64.wrap n
def LIM:Nat:=4294967296
end Go.Vc
