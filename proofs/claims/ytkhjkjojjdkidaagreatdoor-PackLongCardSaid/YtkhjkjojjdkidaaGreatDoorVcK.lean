/- Calls by contract. -/
import Derived.Test.YtkhjkjojjdkidaaGreatDoorVcJ
namespace Go.Vc
open Go
variable {P:Program} {B:Base} {ops:Array Oper}
inductive OpdL:List Operand→List V→List (Nat×V)→Prop
 | nil:OpdL [] [] []
 | cons {x:Operand} {v:V} {nt nt':List (Nat×V)} {xs:List Operand} {vs:List V}:Opd x v nt→OpdL xs vs nt'→OpdL (x :: xs) (v :: vs) (nt++nt')
theorem OpdL.rep {env:Env} {ob:Obs} {a:Act} {w:World} {σ:Nat→Option Nat} {Z:Nat→Prop} (s:Sim B env ob a w σ Z):∀ {xs:List Operand} {vs:List V} {nt:List (Nat×V)},OpdL xs vs nt→(∀ p∈nt,env p.1=some p.2)→vs.all noTupB=true →
  RepVs ob σ Z w (xs.map a.eval) vs
 | _,_,_,.nil,_,_=>trivial
 | _,_,_,.cons hx hxs,hn,ht=>by
  obtain⟨h1,h2⟩:=E7 hn
  simp only [List.all_cons,Bool.and_eq_true] at ht
  exact⟨(hx B env ob a w σ Z s h1).to (by simpa [noTupB] using ht.1),OpdL.rep s hxs h2 ht.2⟩
structure FnOk (P:Program) (f:FuncId):Prop where
 get:(P.funcs[f]?).map (fun fn=>(fn.name == "runtime.NumGoroutine",fn.body.isNone))=some (false,false)
theorem FnOk.run {f:FuncId} (h:FnOk P f) (args:Array Value) (w:World):(callFunc f args).run P w = .ok (.enter f args) w:=by
 have:=h.get
 cases hf:P.funcs[f]? with
 | none=>simp [hf] at this
 | some fn =>
  simp only [hf,Option.map_some,Option.some.injEq,Prod.mk.injEq] at this
  have h1:¬ fn.name = "runtime.NumGoroutine":=by simpa using this.1
  have h2:¬ fn.body=none:=fun e=>by rw [e] at this;simp at this
  simp [callFunc,hf,h1,h2]
def renO (R:List (Nat×Nat)) (robs:OL):OL:=robs.map fun p=>(rnm R p.1,p.2.map (Ob.ren (rnm R)))
def renP (R:List (Nat×Nat)) (pobs:List (Nat×Ob)):List (Nat×Ob):=pobs.map fun p=>(rnm R p.1,p.2.ren (rnm R))
def newNames (R:List (Nat×Nat)) (pobs:List (Nat×Ob)) (robs:OL):List Nat:=(robs.filter fun p => !memB p.1 (keys pobs)).map fun p=>rnm R p.1
def okCall (R:List (Nat×Nat)) (args:List V) (pobs:List (Nat×Ob)) (robs:OL):Bool :=
 args.all noTupB&&(args.all fun v=>v.names.all fun n=>memB n (keys pobs)) &&
 (pobs.all fun p=>p.2.names.all fun n=>memB n (keys pobs)) &&
 (robs.all fun p=>robs.all fun q => !Nat.beq (rnm R p.1) (rnm R q.1) || Nat.beq p.1 q.1) &&
 (pobs.all fun p=>memB p.1 (keys robs)&&Nat.blt p.1 1000) &&
 (robs.all fun p=>memB p.1 (keys pobs) || Nat.ble 1000 (rnm R p.1)) &&
 (robs.all fun p=>match p.2 with | some o=>o.noReg | none=>true)
theorem A9l {R:List (Nat×Nat)}:∀ {robs:OL},(∀ p∈robs,∀ q∈robs,rnm R p.1=rnm R q.1→p.1=q.1)→∀ n∈keys robs,look (renO R robs) (rnm R n)=(look robs n).map (Option.map (Ob.ren (rnm R)))
 | [],_,n,hn=>by simp [keys] at hn
 | p :: robs,hinj,n,hn=>by
  obtain⟨m,x⟩:=p
  simp only [renO,List.map_cons]
  rw [F0,F0]
  by_cases h:m=n
  ·subst h;simp
  ·have hn':n∈keys robs:=by
    simp only [keys,List.map_cons,List.mem_cons] at hn
    rcases hn with hn | hn
    ·exact absurd hn.symm h
    ·exact hn
   have hne:rnm R m≠rnm R n:=fun e=>h (by
    obtain⟨q,hq,hqn⟩:=List.mem_map.1 hn'
    have:=hinj (m,x) (List.mem_cons_self ..) q (List.mem_cons_of_mem _ hq) (by rw [hqn];exact e)
    rw [← hqn];exact this)
   rw [if_neg hne,if_neg h]
   exact A9l (fun p hp q hq=>hinj p (List.mem_cons_of_mem _ hp) q (List.mem_cons_of_mem _ hq)) n hn'
theorem A4t {R:List (Nat×Nat)}:∀ {robs:OL} {m:Nat},(∀ n∈keys robs,rnm R n≠m)→look (renO R robs) m=none
 | [],_,_=>rfl
 | p :: robs,m,h=>by
  obtain⟨n,x⟩:=p
  simp only [renO,List.map_cons]
  rw [F0,if_neg (h n (by simp [keys]))]
  exact A4t fun k hk=>h k (by simp only [keys,List.map_cons,List.mem_cons];exact .inr hk)
def sigR (R:List (Nat×Nat)) (robs:OL) (σ' σ:Nat→Option Nat):Nat→Option Nat:=fun m=>match robs.find? fun p=>Nat.beq (rnm R p.1) m with | some p=>σ' p.1 | none=>σ m
theorem B5k {R:List (Nat×Nat)} {robs:OL} {σ' σ:Nat→Option Nat} (hinj:∀ p∈robs,∀ q∈robs,rnm R p.1=rnm R q.1→p.1=q.1) {n:Nat} (hn:n∈keys robs):sigR R robs σ' σ (rnm R n)=σ' n:=by
 unfold sigR
 cases hf:robs.find? fun p=>Nat.beq (rnm R p.1) (rnm R n) with
 | none =>
  obtain⟨q,hq,hqn⟩:=List.mem_map.1 hn
  have:=List.find?_eq_none.1 hf q hq
  rw [hqn] at this
  simp at this
 | some p =>
  have h1:=List.find?_some hf
  have h2:=List.mem_of_find?_eq_some hf
  obtain⟨q,hq,hqn⟩:=List.mem_map.1 hn
  have:=hinj p h2 q hq (by rw [hqn];exact Nat.eq_of_beq_eq_true h1)
  simp only [this,hqn]
theorem B4a {R:List (Nat×Nat)} {robs:OL} {σ' σ:Nat→Option Nat} {m:Nat} (h:∀ n∈keys robs,rnm R n≠m):sigR R robs σ' σ m=σ m:=by
 unfold sigR
 have:robs.find? (fun p=>Nat.beq (rnm R p.1) m)=none:=by
  refine List.find?_eq_none.2 fun p hp hb=>h p.1 (List.mem_map.2 ⟨p,hp,rfl⟩) (Nat.eq_of_beq_eq_true hb)
 rw [this]
theorem Sim.call {env:Env} {ob:Obs} {a:Act} {w:World} {σ:Nat→Option Nat} {Z:Nat→Prop} (s:Sim B env ob a w σ Z) (hB:B.ok) {R:List (Nat×Nat)} {args:List V} {pobs:List (Nat×Ob)} {res:V} {robs:OL} (hok:okCall R args pobs robs=true)
  (hno:∀ p∈renP R pobs,ob p.1=some (some p.2)) (hnf:∀ n∈newNames R pobs robs,ob n=none) {cv:Value} {w':World} {σ':Nat→Option Nat} {Z':Nat→Prop} (hp:Post (obOf pobs) w (fun n=>σ (rnm R n)) Z res robs cv w' σ' Z') :
  Sim B env (fun n=>match look (renO R robs) n with | some x=>some x | none=>ob n) a w' (sigR R robs σ' σ) Z' ∧
  RepT (fun n=>match look (renO R robs) n with | some x=>some x | none=>ob n) (sigR R robs σ' σ) Z' w' cv (res.ren (rnm R)):=by
 simp only [okCall,Bool.and_eq_true,List.all_eq_true] at hok
 obtain⟨⟨⟨⟨⟨⟨_,_⟩,_⟩,k4⟩,k5⟩,k6⟩,k7⟩:=hok
 have hinj:∀ p∈robs,∀ q∈robs,rnm R p.1=rnm R q.1→p.1=q.1:=fun p hpm q hq e=>by
  have:=k4 p hpm q hq
  rw [e] at this
  simp only [Bool.or_eq_true] at this
  rcases this with h | h
  ·simp at h
  ·exact Nat.eq_of_beq_eq_true h
 let r:=rnm R
 let ob2:Obs:=fun n=>match look (renO R robs) n with | some x=>some x | none=>ob n
 let σ2:=sigR R robs σ' σ
 show Sim B env ob2 a w' σ2 Z'∧RepT ob2 σ2 Z' w' cv (res.ren r)
 -- who is touched
 have dec:∀ m,(∃ n,n∈keys robs∧r n=m)∨(∀ n∈keys robs,r n≠m):=fun m=>by
  by_cases h:∃ n,n∈keys robs∧r n=m
  ·exact .inl h
  ·exact .inr fun n hn e=>h ⟨n,hn,e⟩
 have ob2_in:∀ n∈keys robs,ob2 (r n)=(look robs n).map (Option.map (Ob.ren r)):=fun n hn=>by
  show(match look (renO R robs) (rnm R n) with | some x=>some x | none=>ob (rnm R n))=_
  rw [A9l hinj n hn]
  cases hl:look robs n with
  | none=>exact absurd hl (P2 hn)
  | some x=>rfl
 have ob2_out:∀ m,(∀ n∈keys robs,r n≠m)→ob2 m=ob m:=fun m h=>by
  show(match look (renO R robs) m with | some x=>some x | none=>ob m)=_
  rw [A4t h]
 have param:∀ n,n∈keys pobs→∃ o,look pobs n=some o∧ob (r n)=some (some (o.ren r))∧n<1000∧n∈keys robs:=fun n hn=>by
  cases hl:look pobs n with
  | none=>exact absurd hl (P2 hn)
  | some o =>
   have hm:=I7 hl
   have h5:=k5 (n,o) hm
   refine⟨o,rfl,hno (rnm R n,o.ren (rnm R)) (List.mem_map.2 ⟨(n,o),hm,rfl⟩),?_,A0a h5.1⟩
   have:=h5.2
   have h9:n+1≤1000:=Nat.le_of_ble_eq_true this
   omega
 have newN:∀ n∈keys robs,n∉keys pobs→ob (r n)=none∧1000≤r n:=fun n hn hnp=>by
  obtain⟨q,hq,rfl⟩:=List.mem_map.1 hn
  have hb:memB q.1 (keys pobs)=false:=by
   cases hb:memB q.1 (keys pobs) with
   | false=>rfl
   | true=>exact absurd (A0a hb) hnp
  refine⟨hnf _ (List.mem_map.2 ⟨q,List.mem_filter.2 ⟨hq,by simp [hb]⟩,rfl⟩),?_⟩
  have:=k6 q hq
  simp only [hb,Bool.or_eq_true] at this
  rcases this with h | h
  ·cases h
  ·exact Nat.le_of_ble_eq_true h
 have livePob:∀ n,n∈keys pobs→live (obOf pobs) n:=fun n hn=>by
  obtain⟨o,ho,_⟩:=param n hn
  exact⟨o,by simp [obOf,ho]⟩
 have pobLive:∀ n,live (obOf pobs) n→n∈keys pobs:=fun n ⟨o,ho⟩=>by
  simp only [obOf,Option.map_eq_some_iff] at ho
  obtain⟨o',h1,_⟩:=ho
  exact A1k (by rw [h1];simp)
 -- live names behind the call
 have live2:∀ m,live ob2 m→(∃ n,n∈keys robs∧r n=m∧live (look robs) n)∨((∀ n∈keys robs,r n≠m)∧live ob m):=fun m hl=>by
  rcases dec m with ⟨n,hn,rfl⟩ | h
  ·left
   obtain⟨o,ho⟩:=hl
   rw [ob2_in n hn] at ho
   cases hq:look robs n with
   | none=>exact absurd hq (P2 hn)
   | some x =>
    rw [hq] at ho
    cases x with
    | none=>simp at ho
    | some o'=>exact⟨n,hn,rfl,⟨o',hq⟩⟩
  ·right
   obtain⟨o,ho⟩:=hl
   rw [ob2_out m h] at ho
   exact⟨h,⟨o,ho⟩⟩
 have σ2_in:∀ n∈keys robs,σ2 (r n)=σ' n:=fun n hn=>B5k hinj hn
 have σ2_out:∀ m,(∀ n∈keys robs,r n≠m)→σ2 m=σ m:=fun m h=>B4a h
 have pinEq:∀ n,n∈keys pobs→live (look robs) n→σ' n=σ (r n):=fun n hn hl=>by
  obtain⟨o,ho,hob,hlt,hk⟩:=param n hn
  exact hp.pin n hlt (livePob n hn) hl
 have touched:∀ m b,live ob m→σ m=some b→(∀ n∈keys pobs,r n≠m)→w'.heap[b]? = w.heap[b]? :=fun m b hl hb hm =>
  hp.block b (s.lt hl hb) fun⟨k,hk,hkb⟩=>by
   obtain⟨o,_,hob,_,_⟩:=param k (pobLive k hk)
   exact hm k (pobLive k hk) (s.inj _ _ b ⟨_,hob⟩ hl hkb hb)
 have zsame:∀ b,Z b→w'.heap[b]? = w.heap[b]? :=fun b hz=>hp.block b (s.zlt b hz) fun⟨k,hk,hkb⟩=>by
  obtain⟨o,_,hob,_,_⟩:=param k (pobLive k hk)
  exact(s.blk _ b ⟨_,hob⟩ hkb).1 hz
 have m:Move ob ob2 σ σ2 Z Z' w w':=by
  refine⟨⟨hp.zsub,zsame⟩,fun n hu => ?_,fun n hu hl => ?_,fun n b hu hl hb => ?_⟩
  ·rcases dec n with ⟨k,hk,rfl⟩ | h
   ·unfold used
    rw [ob2_in k hk]
    cases hq:look robs k with
    | none=>exact absurd hq (P2 hk)
    | some x=>simp
   ·unfold used;rw [ob2_out n h];exact hu
  ·rcases live2 n hl with ⟨k,hk,rfl,hlk⟩ | ⟨h,hl'⟩
   ·have hkp:k∈keys pobs:=Classical.byContradiction fun hc=>hu (newN k hk hc).1
    obtain⟨o,_,hob,_,_⟩:=param k hkp
    exact⟨⟨_,hob⟩,by rw [σ2_in k hk,pinEq k hkp hlk]⟩
   ·exact⟨hl',σ2_out n h⟩
  ·rcases live2 n hl with ⟨k,hk,rfl,hlk⟩ | ⟨h,hl'⟩
   ·have hkp:k∈keys pobs:=Classical.byContradiction fun hc=>hu (newN k hk hc).1
    obtain⟨o,_,hob,hlt,_⟩:=param k hkp
    exact hp.shp k b hlt (livePob k hkp) hlk hb
   ·simp only [World.shape?,touched n b hl' hb (fun k hk=>h k (param k hk).choose_spec.2.2.2)]
 have fore:Fore r (look robs) ob2 σ' σ2:=by
  refine⟨fun n hu => ?_,fun n hu hl => ?_⟩
  ·have hn:n∈keys robs:=A1k hu
   unfold used
   rw [ob2_in n hn]
   cases hq:look robs n with
   | none=>exact absurd hq hu
   | some x=>simp
  ·have hn:n∈keys robs:=A1k hu
   refine⟨?_,σ2_in n hn⟩
   obtain⟨o,ho⟩:=hl
   rw [ob2_in n hn] at ho
   cases hq:look robs n with
   | none=>exact absurd hq hu
   | some x =>
    rw [hq] at ho
    cases x with
    | none=>simp at ho
    | some o'=>exact⟨o',hq⟩
 refine⟨{ s with env:=?_,obj:=?_,inj:=?_,blk:=?_,zlt:=hp.zlt,pin:=?_,shp:=?_,os:=hp.os.trans s.os,tape:=hp.tape.trans s.tape,output:=hp.output.trans s.output,size:=Nat.le_trans s.size hp.size,zsub:=fun b h=>hp.zsub b (s.zsub b h),znew:=?_,block:=?_,foot:=?_ },hp.res.doren fore⟩
 ·intro k x hk
  obtain⟨v,h1,h2⟩:=s.env k x hk
  exact⟨v,h1,h2.move m⟩
 ·intro q o hq
  rcases live2 q ⟨o,hq⟩ with ⟨n,hn,rfl,hl⟩ | ⟨h,hl⟩
  ·obtain⟨o',ho'⟩:=hl
   rw [ob2_in n hn,ho'] at hq
   simp only [Option.map_some,Option.some.injEq] at hq
   subst hq
   exact Ob.doren fore (σ2_in n hn) (hp.obj n o' ho')
  ·rw [ob2_out q h] at hq
   exact Ob.rep_move m (s.obj q o hq) (σ2_out q h) (fun b hb=>touched q b ⟨o,hq⟩ hb (fun k hk=>h k (param k hk).choose_spec.2.2.2))
 ·intro p q b hlp hlq hpb hqb
  rcases live2 p hlp with ⟨n,hn,rfl,hl⟩ | ⟨h,hl⟩<;>rcases live2 q hlq with ⟨n',hn',rfl,hl'⟩ | ⟨h',hl'⟩
  ·rw [σ2_in n hn] at hpb;rw [σ2_in n' hn'] at hqb
   rw [hp.inj n n' b hl hl' hpb hqb]
  ·rw [σ2_in n hn] at hpb;rw [σ2_out q h'] at hqb
   exfalso
   rcases(hp.blk n b hl hpb).2 with h1 | ⟨k,hk,hkb⟩
   ·have:=s.lt hl' hqb;omega
   ·obtain⟨o,_,hob,_,hkr⟩:=param k (pobLive k hk)
    exact h' k hkr (s.inj _ _ b ⟨_,hob⟩ hl' hkb hqb)
  ·rw [σ2_out p h] at hpb;rw [σ2_in n' hn'] at hqb
   exfalso
   rcases(hp.blk n' b hl' hqb).2 with h1 | ⟨k,hk,hkb⟩
   ·have:=s.lt hl hpb;omega
   ·obtain⟨o,_,hob,_,hkr⟩:=param k (pobLive k hk)
    exact h k hkr (s.inj _ _ b ⟨_,hob⟩ hl hkb hpb)
  ·rw [σ2_out p h] at hpb;rw [σ2_out q h'] at hqb
   exact s.inj p q b hl hl' hpb hqb
 ·intro q b hlq hb
  rcases live2 q hlq with ⟨n,hn,rfl,hl⟩ | ⟨h,hl⟩
  ·rw [σ2_in n hn] at hb
   obtain⟨h1,h2⟩:=hp.blk n b hl hb
   refine⟨h1,?_⟩
   rcases h2 with h2 | ⟨k,hk,hkb⟩
   ·exact .inl (Nat.le_trans s.size h2)
   ·obtain⟨o,_,hob,_,_⟩:=param k (pobLive k hk)
    exact(s.blk _ b ⟨_,hob⟩ hkb).2
  ·rw [σ2_out q h] at hb
   obtain⟨h1,h2⟩:=s.blk q b hl hb
   refine⟨fun hz => ?_,h2⟩
   rcases hp.znew b hz with h3 | h3 | ⟨k,hk,hkb⟩
   ·exact h1 h3
   ·have:=s.lt hl hb;omega
   ·obtain⟨o,_,hob,_,hkr⟩:=param k (pobLive k hk)
    exact h k hkr (s.inj _ _ b ⟨_,hob⟩ hl hkb hb)
 ·intro q b hpin hlq
  rcases live2 q hlq with ⟨n,hn,rfl,hl⟩ | ⟨h,hl⟩
  ·have hkp:n∈keys pobs:=Classical.byContradiction fun hc=>by have:=(newN n hn hc).2;have:=hB _ b hpin;omega
   obtain⟨o,_,hob,_,_⟩:=param n hkp
   show σ2 (r n)=b
   rw [σ2_in n hn,pinEq n hkp hl]
   exact s.pin _ b hpin ⟨_,hob⟩
  ·show σ2 q=b
   rw [σ2_out q h]
   exact s.pin q b hpin hl
 ·intro q b hpin hlq
  rcases live2 q hlq with ⟨n,hn,rfl,hl⟩ | ⟨h,hl⟩
  ·have hkp:n∈keys pobs:=Classical.byContradiction fun hc=>by have:=(newN n hn hc).2;have:=hB _ b hpin;omega
   obtain⟨o,_,hob,hlt,_⟩:=param n hkp
   have hσ:=s.pin _ b hpin ⟨_,hob⟩
   rw [hp.shp n b hlt (livePob n hkp) hl hσ]
   exact s.shp _ b hpin ⟨_,hob⟩
  ·have hσ:=s.pin q b hpin hl
   rw [← s.shp q b hpin hl]
   simp only [World.shape?,touched q b hl hσ (fun k hk=>h k (param k hk).choose_spec.2.2.2)]
 ·intro b hz
  rcases hp.znew b hz with h | h | ⟨k,hk,hkb⟩
  ·exact s.znew b h
  ·exact .inr (.inl (Nat.le_trans s.size h))
  ·obtain⟨o,_,hob,_,_⟩:=param k (pobLive k hk)
   exact .inr (s.blk _ b ⟨_,hob⟩ hkb).2
 ·intro k hk hown
  rw [hp.block k (Nat.lt_of_lt_of_le hk s.size) fun⟨q,hq,hqb⟩=>by
   obtain⟨o,_,hob,_,_⟩:=param q (pobLive q hq)
   rcases(s.blk _ k ⟨_,hob⟩ hqb).2 with h | h
   ·omega
   ·exact hown h]
  exact s.block k hk hown
 ·have reg2:∀ n r',ob2 n=some (some (.reg r'))→(∀ k∈keys robs,r k≠n)∧ob n=some (some (.reg r')):=fun n r' hn=>by
   rcases dec n with ⟨k,hk,rfl⟩ | h
   ·exfalso
    rw [ob2_in k hk] at hn
    cases hq:look robs k with
    | none=>exact absurd hq (P2 hk)
    | some x =>
     rw [hq] at hn
     cases x with
     | none=>simp at hn
     | some o =>
      have h7:=k7 (k,some o) (I7 hq)
      cases o<;>simp [Ob.ren] at hn
      simp [Ob.noReg] at h7
   ·rw [ob2_out n h] at hn;exact⟨h,hn⟩
  refine s.foot.move m.ext hp.size (fun n r' hn=>⟨(reg2 n r' hn).2,σ2_out n (reg2 n r' hn).1⟩) (fun n b ⟨r',hn⟩ hb=>touched n b ⟨_,(reg2 n r' hn).2⟩ hb fun k hk=>(reg2 n r' hn).1 k (param k hk).choose_spec.2.2.2) (fun b _ hl hnn=>hp.block b hl fun⟨k,hk,hkb⟩ => ?_) (fun b hz => ?_) fun q b hq hb => ?_
  ·obtain⟨o,_,hob,_,_⟩:=param k (pobLive k hk)
   exact hnn _ ⟨_,hob⟩ hkb
  ·rcases hp.znew b hz with h | h | ⟨k,hk,hkb⟩
   ·exact .inl h
   ·exact .inr (.inl h)
   ·obtain⟨o,_,hob,_,_⟩:=param k (pobLive k hk)
    exact .inr (.inr ⟨_,⟨_,hob⟩,hkb⟩)
  ·rcases live2 q hq with ⟨n,hn,rfl,hl⟩ | ⟨h,hl⟩
   ·rw [σ2_in n hn] at hb
    rcases(hp.blk n b hl hb).2 with h2 | ⟨k,hk,hkb⟩
    ·exact .inl h2
    ·obtain⟨o,_,hob,_,_⟩:=param k (pobLive k hk)
     exact .inr ⟨_,⟨_,hob⟩,hkb⟩
   ·rw [σ2_out q h] at hb
    exact .inr ⟨q,hl,hb⟩
theorem Sim.pre {env:Env} {ob:Obs} {a:Act} {w:World} {σ:Nat→Option Nat} {Z:Nat→Prop} (s:Sim B env ob a w σ Z) {R:List (Nat×Nat)} {args:List V} {pobs:List (Nat×Ob)} {robs:OL} (hok:okCall R args pobs robs=true)
  (hno:∀ p∈renP R pobs,ob p.1=some (some p.2)) {cs:List Value} (hargs:RepVs ob σ Z w cs (V.renL (rnm R) args)):Pre (obOf pobs) w (fun n=>σ (rnm R n)) Z args cs:=by
 simp only [okCall,Bool.and_eq_true,List.all_eq_true] at hok
 obtain⟨⟨⟨⟨⟨⟨k1,k2⟩,k3⟩,k4⟩,k5⟩,k6⟩,_⟩:=hok
 have lv:∀ n o,look pobs n=some o→ob (rnm R n)=some (some (o.ren (rnm R))):=fun n o h=>hno (rnm R n,o.ren (rnm R)) (List.mem_map.2 ⟨(n,o),I7 h,rfl⟩)
 have lv':∀ n,live (obOf pobs) n→∃ o,look pobs n=some o:=fun n ⟨o,ho⟩=>by
  simp only [obOf,Option.map_eq_some_iff] at ho
  obtain⟨o',h1,_⟩:=ho
  exact⟨o',h1⟩
 have back:∀ ns:List Nat,(∀ n∈ns,memB n (keys pobs)=true)→Back (rnm R) ob (obOf pobs) σ (fun n=>σ (rnm R n)) ns:=fun ns h =>
  ⟨fun n hn=>by
   have:=P2 (A0a (h n hn))
   unfold used obOf
   cases hl:look pobs n with
   | none=>exact absurd hl this
   | some o=>simp,fun n _ hl=>by
   obtain⟨o,ho⟩:=lv' n hl
   exact⟨⟨_,lv n o ho⟩,rfl⟩⟩
 refine⟨hargs.unren (back _ ?_),fun n o hn => ?_,fun p q b hp hq hpb hqb => ?_,fun n b hl hb => ?_,s.zlt⟩
 ·have:∀ (vs:List V),(∀ v∈vs,∀ n∈v.names,memB n (keys pobs)=true)→∀ n∈V.namesL vs,memB n (keys pobs)=true:=by
   intro vs
   induction vs with
   | nil=>intro _ n hn;cases hn
   | cons v vs ih =>
    intro h n hn
    rcases List.mem_append.1 hn with hn | hn
    ·exact h v (List.mem_cons_self ..) n hn
    ·exact ih (fun v' hv'=>h v' (List.mem_cons_of_mem _ hv')) n hn
  exact this args (fun v hv=>by have:=k2 v hv;simpa [List.all_eq_true] using this)
 ·simp only [obOf,Option.map_eq_some_iff,Option.some.injEq] at hn
  obtain⟨o',h1,h2⟩:=hn
  subst h2
  have hb:=k3 (n,o') (I7 h1)
  exact Ob.unren (back _ hb) rfl (s.obj _ _ (lv n o' h1))
 ·obtain⟨o,ho⟩:=lv' p hp
  obtain⟨o',ho'⟩:=lv' q hq
  have:=s.inj _ _ b ⟨_,lv p o ho⟩ ⟨_,lv q o' ho'⟩ hpb hqb
  have h5:=(k5 (p,o) (I7 ho)).1
  have h5':=(k5 (q,o') (I7 ho')).1
  obtain⟨x,hx,hxp⟩:=List.mem_map.1 (A0a h5)
  obtain⟨y,hy,hyq⟩:=List.mem_map.1 (A0a h5')
  have h4:=k4 x hx y hy
  rw [hxp,hyq] at h4
  simp only at h4
  rw [this] at h4
  simp only [Bool.or_eq_true] at h4
  rcases h4 with h | h
  ·simp at h
  ·exact Nat.eq_of_beq_eq_true h
 ·obtain⟨o,ho⟩:=lv' n hl
  exact(s.blk _ b ⟨_,lv n o ho⟩ hb).1
section
variable {d:Nat} {ty:TypeId} {pos:String} {af:Array Edge} {nt nt':List (Nat×V)}
def callEff (nt:List (Nat×V)) (d:Nat) (R:List (Nat×Nat)) (pobs:List (Nat×Ob)) (res:V) (robs:OL):Eff :=
 { nt,no:=renP R pobs,nf:=newNames R pobs robs,wt:=[(d,res.ren (rnm R))],wo:=renO R robs }
theorem OpJ.callFn {f:FuncId} {xs:List Operand} {ts:Array TypeId} {args:List V} {pobs:List (Nat×Ob)} {res:V} {robs:OL} (hB:B.ok) (hfn:FnOk P f) (hac:AC P f args pobs res robs) (R:List (Nat×Nat)) (hok:okCall R args pobs robs=true) (hN:d<B.N)
  (hnt:(V.renL (rnm R) args).all noTupB=true) (hx:OpdL xs (V.renL (rnm R) args) nt) :
  OpJ P B ops ⟨some d,.call { callee:=.value (.func f),args:=xs.toArray,argTypes:=ts },ty,pos,af,none⟩ (callEff nt d R pobs res robs):=by
 intro Q env ob a w σ Z K s hn hK
 have hargs:=hx.rep s hn.1 hnt
 have pre:=s.pre hok hn.2.1 hargs
 have hrun:(execOp a.eval ⟨some d,.call { callee:=.value (.func f),args:=xs.toArray,argTypes:=ts },ty,pos,af,none⟩).run P w = .ok (.enter f (xs.map a.eval).toArray) w:=by
  simp only [execOp,resolve,Act.eval,Deferred.ofValue,Sem.run_bind,Sem.run_pure,Result.andThen_ok,invoke,List.map_toArray,Array.empty_append,Array.append_empty,hfn.run]
 rw [if_pos (by simp [Region.wanted])]
 unfold Oper.wp
 rw [hrun,Oper.upon_enter]
 refine(hac w _ Z _ pre).mono fun e w' ⟨cv,σ',Z',he,hp⟩ => ?_
 subst he
 obtain⟨s',hr⟩:=s.call hB hok hn.2.1 hn.2.2 hp
 refine hK _ _ (sigR R robs σ' σ) Z' ?_
 rw [N2 _ rfl]
 exact s'.put hN hr
theorem OpJ.callFn0 {f:FuncId} {xs:List Operand} {ts:Array TypeId} {args:List V} {pobs:List (Nat×Ob)} {res:V} {robs:OL} (hB:B.ok) (hfn:FnOk P f) (hac:AC P f args pobs res robs) (R:List (Nat×Nat)) (hok:okCall R args pobs robs=true)
  (hnt:(V.renL (rnm R) args).all noTupB=true) (hx:OpdL xs (V.renL (rnm R) args) nt) :
  OpJ P B ops ⟨none,.call { callee:=.value (.func f),args:=xs.toArray,argTypes:=ts },ty,pos,af,none⟩ { callEff nt 0 R pobs res robs with wt:=[] }:=by
 intro Q env ob a w σ Z K s hn hK
 have hargs:=hx.rep s hn.1 hnt
 have pre:=s.pre hok hn.2.1 hargs
 have hrun:(execOp a.eval ⟨none,.call { callee:=.value (.func f),args:=xs.toArray,argTypes:=ts },ty,pos,af,none⟩).run P w = .ok (.enter f (xs.map a.eval).toArray) w:=by
  simp only [execOp,resolve,Act.eval,Deferred.ofValue,Sem.run_bind,Sem.run_pure,Result.andThen_ok,invoke,List.map_toArray,Array.empty_append,Array.append_empty,hfn.run]
 rw [if_pos (by simp [Region.wanted])]
 unfold Oper.wp
 rw [hrun,Oper.upon_enter]
 refine(hac w _ Z _ pre).mono fun e w' ⟨cv,σ',Z',he,hp⟩ => ?_
 subst he
 obtain⟨s',hr⟩:=s.call hB hok hn.2.1 hn.2.2 hp
 refine hK _ _ (sigR R robs σ' σ) Z' ?_
 rw [A88 _ rfl]
 exact s'
theorem A75 (r:Nat→Nat):∀ (xs ys:List V),V.renL r (xs++ys)=V.renL r xs++V.renL r ys
 | [],_=>rfl
 | x :: xs,ys=>by simp only [List.cons_append,V.renL,A75 r xs ys]
theorem OpJ.callVal {t:Nat} {f:FuncId} {caps:List V} {xs:List Operand} {ts:Array TypeId} {args:List V} {pobs:List (Nat×Ob)} {res:V} {robs:OL} (hB:B.ok) (hfn:FnOk P f) (R:List (Nat×Nat)) (hac:AC P f (args++caps) pobs res robs) (hok:okCall R (args++caps) pobs robs=true) (hN:d<B.N)
  (hnt:(V.renL (rnm R) args).all noTupB=true) (hcap:(V.renL (rnm R) caps).all (fun v => !v.isAgg)=true) (hx:OpdL xs (V.renL (rnm R) args) nt) :
  OpJ P B ops ⟨some d,.call { callee:=.value (.tmp t),args:=xs.toArray,argTypes:=ts },ty,pos,af,none⟩ (callEff (nt++[(t,.func f (V.renL (rnm R) caps))]) d R pobs res robs):=by
 intro Q env ob a w σ Z K s hn hK
 obtain⟨n1,n2⟩:=E7 hn.1
 have hargs:=hx.rep s n1 hnt
 have hf:=Opd.tmp t (.func f (V.renL (rnm R) caps)) B env ob a w σ Z s n2
 obtain⟨cvs,hv,hreps⟩:=(And.left hf)
 have hv':a.eval (.tmp t) = .func (.func f) #[] cvs.toArray:=by simpa using hv
 have hcs:∀ (vs:List V) (cs:List Value),V.repL ob σ Z w vs cs→vs.all (fun v => !v.isAgg)=true→RepVs ob σ Z w cs vs:=by
  intro vs
  induction vs with
  | nil=>intro cs h _;cases h;trivial
  | cons v vs ih =>
   intro cs h ht
   obtain⟨c,rest,e,g0,g1,g2⟩:=h
   subst e
   simp only [List.all_cons,Bool.and_eq_true,Bool.not_eq_true'] at ht
   refine⟨?_,ih rest g2 ht.2⟩
   unfold RepV
   rw [if_neg (by simp [ht.1])]
   exact⟨g1,.inr g0⟩
 have happ:∀ (v1 v2:List V) (c1 c2:List Value),RepVs ob σ Z w c1 v1→RepVs ob σ Z w c2 v2→RepVs ob σ Z w (c1++c2) (v1++v2):=by
  intro v1
  induction v1 with
  | nil=>intro v2 c1 c2 h k;cases c1 with | nil=>exact k | cons _ _=>exact h.elim
  | cons v v1 ih=>intro v2 c1 c2 h k;cases c1 with | nil=>exact h.elim | cons c c1=>exact⟨h.1,ih v2 c1 c2 h.2 k⟩
 have pre:=s.pre hok hn.2.1 (by rw [A75];exact happ _ _ _ _ hargs (hcs _ _ hreps hcap))
 have hrun:(execOp a.eval ⟨some d,.call { callee:=.value (.tmp t),args:=xs.toArray,argTypes:=ts },ty,pos,af,none⟩).run P w = .ok (.enter f (xs.map a.eval++cvs).toArray) w:=by
  have he:(#[]++(xs.map a.eval).toArray)++cvs.toArray=(xs.map a.eval++cvs).toArray:=by simp
  simp only [execOp,resolve,hv',Deferred.ofValue,Sem.run_bind,Sem.run_pure,Result.andThen_ok,invoke,List.map_toArray,he,hfn.run]
 rw [if_pos (by simp [Region.wanted])]
 unfold Oper.wp
 rw [hrun,Oper.upon_enter]
 refine(hac w _ Z _ pre).mono fun e w' ⟨cv,σ',Z',he,hp⟩ => ?_
 subst he
 obtain⟨s',hr⟩:=s.call hB hok hn.2.1 hn.2.2 hp
 refine hK _ _ (sigR R robs σ' σ) Z' ?_
 rw [N2 _ rfl]
 exact s'.put hN hr
end
end Go.Vc
