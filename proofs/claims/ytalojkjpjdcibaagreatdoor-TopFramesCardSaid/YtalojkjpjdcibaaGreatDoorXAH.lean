/- Part of the proof that 'TopFrames' holds of every input: no condition. -/
import Derived.Test.YtalojkjpjdcibaaGreatDoorXAG
import Derived.Test.YtalojkjpjdcibaaGreatDoorXAC
import Derived.Test.YtalojkjpjdcibaaGreatDoorXAF
import Derived.Laws.AppendOwn
namespace Go.Vc
open Go
namespace TV
def ren (r:Nat->Nat):TV->TV
 | ptr n o p=>ptr (r n) o p
 | eptr n sz k i o p=>eptr (r n) sz k i o p
 | aptr n o p k i sz=>aptr (r n) o p k i sz
 | sref n c j=>sref (r n) c j
 | qref n j=>qref (r n) j
 | qptr n k i=>qptr (r n) k i
 | tref n c i j=>tref (r n) c i j
 | func f caps=>func f (caps.ren r)
 | st fs=>st (fs.ren r)
 | tup xs=>tup (xs.ren r)
 | opt g w x=>opt g w (x.ren r)
 | mref n=>mref (r n)
 | alt g x y=>alt g (x.ren r) (y.ren r)
 | cons a b=>cons (a.ren r) (b.ren r)
 | x=>x
def sh (w:Ty->Nat->Nat):TV->TV
 | d c i=>d c (w c i)
 | eptr n sz k i o p=>eptr n sz k (w (.int k) i) o p
 | aptr n o p k i sz=>aptr n o p k (w (.int k) i) sz
 | dptr c i=>dptr c (w c i)
 | sref n c j=>sref n c (w (.list c) j)
 | qref n j=>qref n (w (.list (.int .i64)) j)
 | qptr n k i=>qptr n k (w (.int k) i)
 | tref n c i j=>tref n c (w (.int .i64) i) (w (.list c) j)
 | func f caps=>func f (caps.sh w)
 | st fs=>st (fs.sh w)
 | tup xs=>tup (xs.sh w)
 | opt g b x=>opt (w .bool g) b (x.sh w)
 | alt g x y=>alt (w .bool g) (x.sh w) (y.sh w)
 | cons a b=>cons (a.sh w) (b.sh w)
 | x=>x
def names:TV->List Nat
 | ptr n _ _ | eptr n _ _ _ _ _ | aptr n _ _ _ _ _ | sref n _ _ | qref n _ | qptr n _ _ | tref n _ _ _ | mref n=>[n]
 | func _ caps=>caps.names
 | st fs=>fs.names
 | tup xs=>xs.names
 | opt _ _ x=>x.names
 | alt _ x y=>x.names++y.names
 | cons a b=>a.names++b.names
 | _=>[]
def wf:TV->Bool
 | func _ x | st x | tup x=>x.isL&&x.wf
 | opt _ _ x => !x.isL&&x.wf
 | alt _ x y => !x.isL&&x.wf && !y.isL&&y.wf
 | cons a b => !a.isL&&a.wf&&b.isL&&b.wf
 | _=>true
theorem S6 (r:Nat->Nat):∀ xs:List V,V.renL r xs=xs.map (V.ren r)
 | []=>rfl
 | x :: xs=>by simp only [V.renL,List.map_cons,S6 r xs]
theorem Fb:∀ xs:List V,V.namesL xs=(xs.map V.names).flatten
 | []=>rfl
 | x :: xs=>by simp only [V.namesL,List.map_cons,List.flatten_cons,Fb xs]
theorem Fc [Hid] {f:Val} (r:Nat->Nat):∀ {x:TV},(x.ren r).vs f=(x.vs f).map (V.ren r)
 | cst t=>by simp only [ren,vs,List.map,Ux]
 | junk | undef | d _ _ | kb _ | ki _ _ | ks _ | nils | dptr _ _ | nil | ptr _ _ _ | eptr .. | aptr .. | sref _ _ _ | qref _ _ | qptr _ _ _ | tref .. | mref _=>rfl
 | func f caps=>by simp only [ren,vs,List.map,V.ren,Fc r,S6]
 | st fs=>by simp only [ren,vs,List.map,V.ren,Fc r,S6]
 | tup xs=>by simp only [ren,vs,List.map,V.ren,Fc r,S6]
 | opt g w x=>by
  simp only [ren,vs,List.map,V.ren,Fc r];cases x.vs f<;>rfl
 | alt g x y=>by
  simp only [ren,vs,List.map,Fc r];cases f .bool g<;>cases x.vs f<;>cases y.vs f<;>rfl
 | cons a b=>by
  simp only [ren,vs,List.map_cons,Fc r];cases a.vs f<;>rfl
theorem A77 [Hid] {f:Val} (r:Nat->Nat) (x:TV):(x.ren r).v f=(x.v f).ren r:=by
 simp only [v,Fc];cases x.vs f<;>rfl
theorem Gk [Hid] {f g:Val} {m:Ty->Nat->Nat} {n:Nat} (h:∀ c i,i<n->g c (m c i)=f c i):∀ {x:TV},x.lt n=true->(x.sh m).vs g=x.vs f
 | junk,_ | undef,_ | kb _,_ | ki _ _,_ | ks _,_ | nils,_ | cst _,_ | ptr _ _ _,_ | mref _,_ | nil,_=>rfl
 | d c i,hl | dptr c i,hl=>by simp only [sh,vs,h c i (C2 hl)]
 | eptr _ _ k i _ _,hl=>by simp only [sh,vs,h _ i (C2 hl)]
 | aptr _ _ _ k i _,hl=>by simp only [sh,vs,h _ i (C2 hl)]
 | sref _ c j,hl=>by simp only [sh,vs,h _ j (C2 hl)]
 | qref _ j,hl=>by simp only [sh,vs,h _ j (C2 hl)]
 | qptr _ k i,hl=>by simp only [sh,vs,h _ i (C2 hl)]
 | tref _ c i j,hl=>by
  simp only [lt,Bool.and_eq_true] at hl;simp only [sh,vs,h _ i (C2 hl.1),h _ j (C2 hl.2)]
 | func _ caps,hl=>by simp only [sh,vs,Gk h (x:=caps) hl]
 | st fs,hl=>by simp only [sh,vs,Gk h (x:=fs) hl]
 | tup xs,hl=>by simp only [sh,vs,Gk h (x:=xs) hl]
 | opt g _ x,hl=>by
  simp only [lt,Bool.and_eq_true] at hl;simp only [sh,vs,h _ g (C2 hl.1),Gk h hl.2]
 | alt g x y,hl=>by
  simp only [lt,Bool.and_eq_true] at hl;simp only [sh,vs,h _ g (C2 hl.1),Gk h hl.2.1,Gk h hl.2.2]
 | cons a b,hl=>by
  simp only [lt,Bool.and_eq_true] at hl;simp only [sh,vs,Gk h hl.1,Gk h hl.2]
theorem v_sh [Hid] {f g:Val} {m:Ty->Nat->Nat} {n:Nat} (h:∀ c i,i<n->g c (m c i)=f c i) {x:TV} (hl:x.lt n=true):(x.sh m).v g=x.v f:=by simp only [v,Gk h hl]
theorem Z3 [Hid] {f:Val} {p:Nat->Bool}:∀ {x:TV},x.wf=true->x.names.all p=true->(V.namesL (x.vs f)).all p=true
 | cst t,_,_=>by simp only [vs,V.namesL,Yj,List.append_nil,List.all_nil]
 | junk,_,h | undef,_,h | d _ _,_,h | kb _,_,h | ki _ _,_,h | ks _,_,h | nils,_,h | dptr _ _,_,h | nil,_,h | ptr _ _ _,_,h | eptr ..,_,h | aptr ..,_,h | sref _ _ _,_,h | qref _ _,_,h | qptr _ _ _,_,h | tref ..,_,h | mref _,_,h=>h
 | func _ x,h,k | st x,h,k | tup x,h,k=>by
  simp only [wf,Bool.and_eq_true] at h;simp only [vs,V.namesL,V.names,List.append_nil];exact Z3 h.2 k
 | opt _ _ x,h,k=>by
  simp only [wf,Bool.and_eq_true,Bool.not_eq_true'] at h;have:=Z3 (f:=f) h.2 k;rw [G7 h.1] at this;exact this
 | alt g x y,h,k=>by
  simp only [wf,Bool.and_eq_true,Bool.not_eq_true'] at h;simp only [names,List.all_append,Bool.and_eq_true] at k;have h1:=Z3 (f:=f) h.1.1.2 k.1;have h2:=Z3 (f:=f) h.2 k.2;rw [G7 h.1.1.1] at h1;rw [G7 h.1.2] at h2;show(V.namesL [@cond V (f .bool g) (x.v f) (y.v f)]).all p=true;cases f .bool g
  ·exact h2
  ·exact h1
 | cons a b,h,k=>by
  simp only [wf,Bool.and_eq_true,Bool.not_eq_true'] at h;simp only [names,List.all_append,Bool.and_eq_true] at k;have h1:=Z3 (f:=f) h.1.1.2 k.1;have h2:=Z3 (f:=f) h.2 k.2;rw [G7 h.1.1.1] at h1;simp only [V.namesL,List.append_nil] at h1;simp only [vs,V.namesL,List.all_append,Bool.and_eq_true];exact⟨h1,h2⟩
theorem Gl [Hid] {f:Val} {x:TV} {p:Nat->Bool} (h:x.wf=true) (hl:x.isL=false) (k:x.names.all p=true):(x.v f).names.all p=true:=by
 have:=Z3 (f:=f) h k;rw [G7 hl] at this;simpa [V.namesL] using this
def beq:TV->TV->Bool
 | junk,junk=>true
 | undef,undef=>true
 | d c i,d c' i'=>Nat.beq i i'&&decide (c=c')
 | kb b,kb b' => @BEq.beq Bool _ b b'
 | ki k n,ki k' n' => @BEq.beq Int _ n n'&&decide (k=k')
 | ks s,ks s' => @BEq.beq (List UInt8) _ s s'
 | nils,nils=>true
 | cst t,cst t'=>Nat.beq t t'
 | ptr n o p,ptr n' o' p'=>Nat.beq n n'&&Nat.beq o o' && @BEq.beq (List Nat) _ p p'
 | dptr c i,dptr c' i'=>Nat.beq i i'&&decide (c=c')
 | sref n c j,sref n' c' j'=>Nat.beq n n'&&Nat.beq j j'&&decide (c=c')
 | qref n j,qref n' j'=>Nat.beq n n'&&Nat.beq j j'
 | qptr n k i,qptr n' k' i'=>Nat.beq n n'&&Nat.beq i i'&&decide (k=k')
 | func f x,func f' x'=>Nat.beq f f'&&beq x x'
 | st x,st x'=>beq x x'
 | mref n,mref n'=>Nat.beq n n'
 | alt g x y,alt g' x' y'=>Nat.beq g g'&&(beq x x'&&beq y y')
 | eptr n sz k i o p,eptr n' sz' k' i' o' p'=>Nat.beq n n'&&(Nat.beq sz sz'&&(decide (k=k')&&(Nat.beq i i'&&(Nat.beq o o' && @BEq.beq (List Nat) _ p p'))))
 | nil,nil=>true
 | cons a b,cons a' b'=>beq a a'&&beq b b'
 | _,_=>false
theorem O6:∀ {x y:TV},x.beq y=true->x=y
 | junk,y,h | undef,y,h | nils,y,h | nil,y,h=>by cases y<;>simp only [beq,Bool.false_eq_true] at h<;>rfl
 | d c i,y,h=>by
  cases y<;>simp only [beq,Bool.false_eq_true,Bool.and_eq_true,decide_eq_true_eq] at h;rw [Nat.eq_of_beq_eq_true h.1,h.2]
 | dptr c i,y,h=>by
  cases y<;>simp only [beq,Bool.false_eq_true,Bool.and_eq_true,decide_eq_true_eq] at h;rw [Nat.eq_of_beq_eq_true h.1,h.2]
 | kb b,y,h=>by
  cases y<;>simp only [beq,Bool.false_eq_true] at h;rw [eq_of_beq h]
 | ki k n,y,h=>by
  cases y<;>simp only [beq,Bool.false_eq_true,Bool.and_eq_true,decide_eq_true_eq] at h;rw [eq_of_beq h.1,h.2]
 | ks s,y,h=>by
  cases y<;>simp only [beq,Bool.false_eq_true] at h;rw [eq_of_beq h]
 | cst t,y,h=>by
  cases y<;>simp only [beq,Bool.false_eq_true] at h;rw [Nat.eq_of_beq_eq_true h]
 | mref t,y,h=>by
  cases y<;>simp only [beq,Bool.false_eq_true] at h;rw [Nat.eq_of_beq_eq_true h]
 | ptr n o p,y,h=>by
  cases y<;>simp only [beq,Bool.false_eq_true,Bool.and_eq_true] at h;rw [Nat.eq_of_beq_eq_true h.1.1,Nat.eq_of_beq_eq_true h.1.2,eq_of_beq h.2]
 | sref n c j,y,h=>by
  cases y<;>simp only [beq,Bool.false_eq_true,Bool.and_eq_true,decide_eq_true_eq] at h;rw [Nat.eq_of_beq_eq_true h.1.1,Nat.eq_of_beq_eq_true h.1.2,h.2]
 | qref n j,y,h=>by
  cases y<;>simp only [beq,Bool.false_eq_true,Bool.and_eq_true] at h;rw [Nat.eq_of_beq_eq_true h.1,Nat.eq_of_beq_eq_true h.2]
 | qptr n c j,y,h=>by
  cases y<;>simp only [beq,Bool.false_eq_true,Bool.and_eq_true,decide_eq_true_eq] at h;rw [Nat.eq_of_beq_eq_true h.1.1,Nat.eq_of_beq_eq_true h.1.2,h.2]
 | func f x,y,h=>by
  cases y<;>simp only [beq,Bool.false_eq_true,Bool.and_eq_true] at h;rw [Nat.eq_of_beq_eq_true h.1,O6 h.2]
 | st x,y,h=>by
  cases y<;>simp only [beq,Bool.false_eq_true] at h;rw [O6 h]
 | cons a b,y,h=>by
  cases y<;>simp only [beq,Bool.false_eq_true,Bool.and_eq_true] at h;rw [O6 h.1,O6 h.2]
 | alt g x y,z,h=>by
  cases z<;>simp only [beq,Bool.false_eq_true,Bool.and_eq_true] at h;rw [Nat.eq_of_beq_eq_true h.1,O6 h.2.1,O6 h.2.2]
 | eptr n sz k i o p,y,h=>by
  cases y<;>simp only [beq,Bool.false_eq_true,Bool.and_eq_true,decide_eq_true_eq] at h;rw [Nat.eq_of_beq_eq_true h.1,Nat.eq_of_beq_eq_true h.2.1,h.2.2.1,Nat.eq_of_beq_eq_true h.2.2.2.1,Nat.eq_of_beq_eq_true h.2.2.2.2.1,eq_of_beq h.2.2.2.2.2]
 | aptr ..,y,h | tref ..,y,h | tup _,y,h | opt _ _ _,y,h=>by cases y<;>simp [beq] at h
end TV
variable {pos:Nat} {p:Nat->Bool} {r:Nat->Nat} {c:Ty}
theorem A4r {v:V} (d:D):(Ab pos v (.d d)).ren r=Ab pos (v.ren r) (.d d):=by
 cases d with
 | st ds =>
  simp only [Ab,V.ren,TV.S6,List.map_set,List.map_map];congr 2
 | _=>rfl
theorem Px [Hid] {v:V} (l:List c.T):(H0 c pos v l).map (V.ren r)=H0 c pos (v.ren r) l:=by
 unfold H0;rw [Pr];exact Jt λy _=>⟨rfl,A4r _⟩
theorem Vh {v:V} (hv:v.names.all p=true) (d:D):(Ab pos v (.d d)).names.all p=true:=by
 cases d with
 | st ds =>
  simp only [Ab,V.names,TV.Fb];refine List.all_eq_true.2 λn hn => ?_;obtain⟨l,hl,hnl⟩:=List.mem_flatten.1 hn;obtain⟨y,hy,rfl⟩:=List.mem_map.1 hl;rcases List.mem_or_eq_of_mem_set hy with h | h
  ·obtain⟨z,_,rfl⟩:=List.mem_map.1 h;cases hnl
  ·subst h;exact List.all_eq_true.1 hv n hnl
 | _=>rfl
theorem Vi [Hid] {v:V} (hv:v.names.all p=true) (l:List c.T):∀ y∈H0 c pos v l,y.names.all p=true:=λy hy=>by
 obtain⟨z,_,rfl | rfl⟩:=Hk hy
 ·rfl
 ·exact Vh hv _
namespace TOb
variable {x:TOb} {f:Val}
def ren (r:Nat->Nat):TOb->TOb
 | box t x=>box t (x.ren r)
 | row e c i=>row e c i
 | map kc vc i=>map kc vc i
 | glob g c i=>glob g c i
 | vrow e c j pos x=>vrow e c j pos (x.ren r)
 | qrow e j=>qrow e j
def sh (m:Ty->Nat->Nat):TOb->TOb
 | box t x=>box t (x.sh m)
 | row e c i=>row e c (m (.list c) i)
 | map kc vc i=>map kc vc (m (.list (.st (.pr kc vc))) i)
 | glob g c i=>glob g c (m c i)
 | vrow e c j pos x=>vrow e c (m (.list c) j) pos (x.sh m)
 | qrow e j=>qrow e (m (.list (.int .i64)) j)
def names:TOb->List Nat
 | box _ x=>x.names
 | row _ _ _=>[]
 | map _ _ _=>[]
 | glob _ _ _=>[]
 | vrow _ _ _ _ x=>x.names
 | qrow _ _=>[]
def wf:TOb->Bool
 | box _ x=>x.wf && !x.isL
 | row _ _ _=>true
 | map _ _ _=>true
 | glob _ _ _=>true
 | vrow _ _ _ _ x=>x.wf && !x.isL
 | qrow _ _=>true
theorem B9b [Hid] (r:Nat->Nat) (x:TOb):(x.ren r).o f=(x.o f).ren r:=by
 cases x with
 | box t x=>simp only [ren,o,Ob.ren,TV.A77]
 | row e c i=>rfl
 | map kc vc i=>rfl
 | glob g c i=>rfl
 | vrow e c j pos x=>simp only [ren,o,Ob.ren,TV.A77,TV.S6,Px]
 | qrow e j=>rfl
theorem o_sh [Hid] {g:Val} {m:Ty->Nat->Nat} {n:Nat} (h:∀ c i,i<n->g c (m c i)=f c i) (hl:x.lt n=true):(x.sh m).o g=x.o f:=by
 cases x with
 | box t x=>simp only [sh,o,TV.v_sh h (x:=x) hl]
 | row e c i=>simp only [sh,o,h _ i (TV.C2 hl)]
 | map kc vc i=>simp only [sh,o,h (.list (.st (.pr kc vc))) i (TV.C2 hl)]
 | glob g c i=>simp only [sh,o,h c i (TV.C2 hl)]
 | vrow e c j pos x =>
  simp only [lt,Bool.and_eq_true] at hl;simp only [sh,o,h _ j (TV.C2 hl.1),TV.v_sh h (x:=x) hl.2]
 | qrow e j=>simp only [sh,o,h _ j (TV.C2 hl)]
theorem Rz [Hid] (h:x.wf=true) (k:x.names.all p=true):(x.o f).names.all p=true:=by
 cases x with
 | box t x =>
  simp only [wf,Bool.and_eq_true,Bool.not_eq_true'] at h;exact TV.Gl h.1 h.2 k
 | row e c i=>rfl
 | map kc vc i=>rfl
 | glob g c i=>rfl
 | vrow e c j pos x =>
  simp only [wf,Bool.and_eq_true,Bool.not_eq_true'] at h;have hv:=TV.Gl (f:=f) h.1 h.2 k;show(V.namesL (H0 c pos (x.v f) (f (.list c) j))).all p=true;rw [TV.Fb];refine List.all_eq_true.2 λn hn => ?_;obtain⟨l,hl,hnl⟩:=List.mem_flatten.1 hn;obtain⟨y,hy,rfl⟩:=List.mem_map.1 hl;exact List.all_eq_true.1 (Vi hv _ y hy) n hnl
 | qrow e j=>rfl
theorem A25 [Hid] (x:TOb):(x.o f).noReg=true:=by cases x<;>rfl
end TOb
def J3:List Ty->Ty
 | [] => .nil
 | [c]=>c
 | c :: d :: cs => .pr c (J3 (d :: cs))
section
variable {A:Alg}
def C4 (A:Alg):(cs:List Ty)->A.I (J3 cs)->List (Lf A)
 | [],_=>[]
 | [c],x=>[⟨c,x⟩]
 | c :: d :: cs,x=>⟨c,A.fst c (J3 (d :: cs)) x⟩ :: C4 A (d :: cs) (A.snd c (J3 (d :: cs)) x)
def Hb (S:St A):List (Ty×TV)->(cs:List Ty)->Option (A.I (J3 cs))
 | [],[]=>some A.un
 | [(c',x)],[c]=>if c'=c∧c.dat false=true then S.asD x c else none
 | (c',x) :: p :: l,c :: d :: cs=>if c'=c∧c.dat false=true then (S.asD x c).bind λy=>(Hb S (p :: l) (d :: cs)).map λz=>A.pr c (J3 (d :: cs)) y z else none
 | _,_=>none
end
theorem Ao {S:St typ}:∀ {src:List (Ty×TV)} {cs:List Ty} {z:(J3 cs).T},Hb S src cs=some z->∀ (k:Nat) (c:Ty) (x:TV),src[k]? = some (c,x)->c.dat false=true∧∃ y:c.T,S.asD x c=some y∧(C4 typ cs z)[k]? = some ⟨c,y⟩
 | [],[],z,h,k,c,x,hk=>by simp at hk
 | [(c',x')],[c0],z,h,k,c,x,hk=>by
  by_cases e:c'=c0∧c0.dat false=true
  ·have h':S.asD x' c0=some z:=(if_pos e).symm.trans h;obtain⟨rfl,e⟩:=e;cases k with
   | zero=>simp at hk;obtain⟨rfl,rfl⟩:=hk;exact⟨e,z,h',rfl⟩
   | succ k=>simp at hk
  ·have h':=(if_neg e).symm.trans h;cases h'
 | (c',x') :: p :: l,c0 :: d :: cs,z,h,k,c,x,hk=>by
  simp only [Hb] at h;split at h
  ·rename_i e;obtain⟨rfl,e⟩:=e;cases hx:S.asD x' c' with
   | none=>rw [hx] at h;cases h
   | some y =>
    rw [hx,Option.bind_some] at h;cases hz:Hb S (p :: l) (d :: cs) with
    | none=>rw [hz] at h;cases h
    | some w =>
     rw [hz] at h;cases h;cases k with
     | zero=>simp at hk;obtain⟨rfl,rfl⟩:=hk;exact⟨e,y,hx,rfl⟩
     | succ k =>
      obtain⟨h1,y',h2,h3⟩:=Ao hz k c x (by simpa using hk);exact⟨h1,y',h2,by simpa [C4] using h3⟩
  ·cases h
 | [],_ :: _,_,h,_,_,_,_ | [_],[],_,h,_,_,_,_ | [_],_ :: _ :: _,_,h,_,_,_,_ | _ :: _ :: _,[],_,h,_,_,_,_ | _ :: _ :: _,[_],_,h,_,_,_,_=>by simp [Hb] at h
theorem Bu {cs:List Ty}:∀ (z:(J3 cs).T),(C4 typ cs z).length=cs.length:=by
 induction cs with
 | nil=>intro z;rfl
 | cons c cs ih =>
  intro z;cases cs with
  | nil=>rfl
  | cons d cs=>simp only [C4,List.length_cons];rw [ih];rfl
end Go.Vc
namespace Go.Vc
open Go
structure Mt where
 R:List (Nat×Nat):=[]
 src:List (Ty×TV):=[]
def Mt.bnd (m:Mt) (n n':Nat):Mt:=match A1 m.R n with
 | some _=>m
 | none => { m with R:=(n,n') :: m.R }
def Mt.hole (m:Mt) (base i:Nat) (c:Ty) (x:TV):Mt:=bif Nat.blt i base then m else { m with src:=m.src++[(c,x)] }
def fits (R:List (Nat×Nat)):TV->TV->Bool
 | .eptr n _ _ _ _ _,.eptr n' _ _ _ _ _=>Nat.beq (rnm R n) n'
 | .ptr n _ _,.ptr n' _ _=>Nat.beq (rnm R n) n'
 | .cst t,.cst t'=>Nat.beq t t'
 | .alt _ x y,z=>fits R x z || fits R y z
 | _,_=>false
def dfl (base:Nat):TV->Mt->Mt
 | .eptr _ _ k i _ _,m=>m.hole base i (.int k) (.ki k 0)
 | .alt g x y,m=>dfl base y (dfl base x (m.hole base g .bool (.kb false)))
 | _,m=>m
def m1 (base:Nat):TV->TV->Mt->Mt
 | .d c i,y,m=>m.hole base i c y
 | .dptr c i,.dptr _ j,m=>m.hole base i c (.d c j)
 | .ptr n _ _,.ptr n' _ _,m=>m.bnd n n'
 | .eptr n _ k i _ _,.eptr n' _ _ j _ _,m=>(m.bnd n n').hole base i (.int k) (.d (.int k) j)
 | .aptr n _ _ k i _,.aptr n' _ _ _ j _,m=>(m.bnd n n').hole base i (.int k) (.d (.int k) j)
 | .sref n _ _,.sref n' _ _,m=>m.bnd n n'
 | .qref n _,.qref n' _,m=>m.bnd n n'
 | .qptr n k i,.qptr n' _ j,m=>(m.bnd n n').hole base i (.int k) (.d (.int k) j)
 | .mref n,.mref n',m=>m.bnd n n'
 | .func _ x,.func _ y,m=>m1 base x y m
 | .st x,.st y,m=>m1 base x y m
 | .cons a b,.cons a' b',m=>m1 base b b' (m1 base a a' m)
 | .alt g x y,z,m=>match z with
  | .alt g' x' y'=>m1 base y y' (m1 base x x' (m.hole base g .bool (.d .bool g')))
  | z=>bif fits m.R x z then dfl base y (m1 base x z (m.hole base g .bool (.kb true))) else m1 base y z (dfl base x (m.hole base g .bool (.kb false)))
 | _,_,m=>m
def m1O (base:Nat):TOb->TOb->Mt->Mt
 | .box _ x,.box _ y,m=>m1 base x y m
 | .row _ c i,.row _ _ j,m=>m.hole base i (.list c) (.d (.list c) j)
 | .map kc vc i,.map _ _ j,m=>m.hole base i (.list (.st (.pr kc vc))) (.d (.list (.st (.pr kc vc))) j)
 | .glob _ c i,.glob _ _ j,m=>m.hole base i c (.d c j)
 | .qrow _ i,.qrow _ j,m=>m.hole base i (.list (.int .i64)) (.d (.list (.int .i64)) j)
 | .vrow _ c i _ x,.vrow _ _ j _ y,m=>m1 base x y (m.hole base i (.list c) (.d (.list c) j))
 | _,_,m=>m
section
variable {A:Alg}
abbrev U9:=List (Ty×Nat×Nat)
def okI (base:Nat) (src:List (Ty×TV)) (c:Ty) (i j:Nat):Bool :=
 bif Nat.blt i base then Nat.beq i j else match src[i-base]? with
 | some (c',y)=>decide (c'=c)&&c.dat false&&y.beq (.d c j)
 | none=>false
def okN (R:List (Nat×Nat)) (n n':Nat):Bool:=Nat.beq (rnm R n) n'
def ck (base:Nat) (src:List (Ty×TV)) (R:List (Nat×Nat)):TV->Bool->TV->Option U9
 | .d c i,ex,y=>bif Nat.blt i base then (bif y.beq (.d c i) then some [] else none) else match src[i-base]? with
  | some (c',y')=>bif decide (c'=c)&&c.dat false&&y'.beq y && !y.isL&&(!ex || decide (Dp y=some c)) then some [] else none
  | none=>none
 | .kb b,_,y=>bif y.beq (.kb b) then some [] else none
 | .junk,_,y=>bif y.isJunk then some [] else none
 | .ki k n,_,y=>bif y.beq (.ki k n) then some [] else none
 | .ks s,_,y=>bif y.beq (.ks s) then some [] else none
 | .nils,_,y=>bif y.beq .nils then some [] else none
 | .cst t,_,y=>bif y.beq (.cst t) then some [] else none
 | .ptr n o p,_,.ptr n' o' p'=>bif okN R n n'&&Nat.beq o o' && @BEq.beq (List Nat) _ p p' then some [] else none
 | .eptr n sz k i o p,_,.eptr n' sz' k' j o' p'=>bif okN R n n'&&Nat.beq sz sz'&&decide (k=k')&&Nat.beq o o' && @BEq.beq (List Nat) _ p p'&&okI base src (.int k) i j then some [] else none
 | .dptr c i,_,.dptr c' j=>bif decide (c=c')&&okI base src c i j then some [] else none
 | .mref n,_,.mref n'=>bif okN R n n' then some [] else none
 | .sref n c h,_,.sref n' c' j=>bif okN R n n'&&decide (c=c') then
  (bif Nat.blt h base then (bif Nat.beq h j then some [] else some [(c,h,j)]) else match src[h-base]? with
   | some (c2,.d c3 i)=>bif decide (c2 = .list c)&&decide (c3 = .list c)&&c.dat false then (bif Nat.beq i j then some [] else some [(c,i,j)]) else none
   | _=>none)
  else none
 | .qref n h,_,.qref n' j=>bif okN R n n'&&okI base src (.list (.int .i64)) h j then some [] else none
 | .func f x,_,.func f' y=>bif Nat.beq f f' then ck base src R x true y else none
 | .st x,ex,.st y=>ck base src R x ex y
 | .nil,_,.nil=>some []
 | .alt g x y,ex,z=>bif x.isL || y.isL then none else match z with
  | .alt g' x' y'=>bif okI base src .bool g g' && !x'.isL && !y'.isL then (ck base src R x true x').bind λl=>(ck base src R y true y').map λl'=>l++l' else none
  | z=>bif Nat.blt g base || z.isL then none else match src[g-base]? with
   | some (.bool,.kb true)=>ck base src R x ex z
   | some (.bool,.kb false)=>ck base src R y ex z
   | _=>none
 | .cons a b,ex,.cons a' b'=>(ck base src R a ex a').bind λl=>bif a.isL || a'.isL then none else (ck base src R b ex b').map λl'=>l++l'
 | _,_,_=>none
def ckO (base:Nat) (src:List (Ty×TV)) (R:List (Nat×Nat)) (ex:Bool):TOb->TOb->Option U9
 | .box t x,.box t' y=>bif Nat.beq t t' && !x.isL && !y.isL then ck base src R x ex y else none
 | .row e c i,.row e' c' j=>bif Nat.beq e e'&&decide (c=c')&&okI base src (.list c) i j then some [] else none
 | .map kc vc i,.map kc' vc' j=>bif decide (kc=kc')&&decide (vc=vc')&&okI base src (.list (.st (.pr kc vc))) i j then some [] else none
 | .glob g c i,.glob g' c' j=>bif Nat.beq g g'&&decide (c=c')&&okI base src c i j then some [] else none
 | .qrow e i,.qrow e' j=>bif Nat.beq e e'&&okI base src (.list (.int .i64)) i j then some [] else none
 | .vrow e c i q x,.vrow e' c' j q' y=>bif Nat.beq e e'&&decide (c=c')&&Nat.beq q q'&&okI base src (.list c) i j && !x.isL && !y.isL then ck base src R x ex y else none
 | _,_=>none
def Qy (S:St A):U9->Option (A.I .bool)
 | []=>none
 | (c,i,j) :: l=>match Qy S l with
  | none=>some (A.sameLen c (S.lv (.list c) i) (S.lv (.list c) j))
  | some b=>some (A.and (A.sameLen c (S.lv (.list c) i) (S.lv (.list c) j)) b)
def Hc (S:St A) (r:Ty) (l:U9) (m:A.M r):A.M r:=match Qy S l with
 | none=>m
 | some b=>A.chk r b m
end
def P4 (S:St typ) (l:U9):Prop:=∀ q∈l,List.length (S.lv (.list q.1) q.2.1)=List.length (S.lv (.list q.1) q.2.2)
theorem Vj {S:St typ}:∀ {l:U9} {b:Bool},Qy S l=some b->b=true->P4 S l
 | [],_,h,_=>by cases h
 | (c,i,j) :: l,b,h,hb=>by
  simp only [Qy] at h;split at h
  ·rename_i hn;cases h;have:l=[]:=by
    cases l with
    | nil=>rfl
    | cons q l =>
     obtain⟨c',i',j'⟩:=q;simp only [Qy] at hn;split at hn<;>cases hn
   subst this;intro q hq;simp only [List.mem_singleton] at hq;subst hq;exact of_decide_eq_true hb
  ·rename_i b' hl;cases h;obtain⟨h1,h2⟩:=H8 hb;intro q hq;rcases List.mem_cons.1 hq with rfl | hq
   ·exact of_decide_eq_true h1
   ·exact Vj hl h2 q hq
theorem Jx {S:St typ} {r:Ty} {l:U9} {m:Option r.T} {y:r.T} (h:Hc S r l m=some y):P4 S l∧m=some y:=by
 unfold Hc at h;split at h
 ·rename_i hn;refine⟨?_,h⟩;cases l with
  | nil=>intro q hq;cases hq
  | cons q l =>
   obtain⟨c,i,j⟩:=q;simp only [Qy] at hn;split at hn<;>cases hn
 ·rename_i b hb;obtain⟨h1,h2⟩:=N3 h;exact⟨Vj hb h1,h2⟩
structure Fit (S:St typ) (base:Nat) (src:List (Ty×TV)) (f:Val):Prop where
 old:∀ c i,i<base->f c i=S.lv c i
 new:∀ (k:Nat) (c:Ty) (x:TV),src[k]? = some (c,x)->∃ y:c.T,S.asD x c=some y∧f c (base+k)=y
def CkL (ex:Bool) (x y:V):Prop:=ex=false∧Tc x y
mutual
theorem B4q {L:V->V->Prop} (hL:∀ x y,¬ L x y):∀ {x y:V},Tw L x y->x=y
 | _,_,.leaf h=>absurd h (hL _ _)
 | _,_,.same _=>rfl
 | _,_,.st h=>by rw [Sa hL h]
theorem Sa {L:V->V->Prop} (hL:∀ x y,¬ L x y):∀ {x y:List V},TwL L x y->x=y
 | _,_,.nil=>rfl
 | _,_,.cons h k=>by rw [B4q hL h,Sa hL k]
end
mutual
theorem B2d {L L':V->V->Prop} (hL:∀ x y,L x y->L' x y):∀ {x y:V},Tw L x y->Tw L' x y
 | _,_,.leaf h => .leaf (hL _ _ h)
 | _,_,.same _ => .same _
 | _,_,.st h => .st (Lx hL h)
theorem Lx {L L':V->V->Prop} (hL:∀ x y,L x y->L' x y):∀ {x y:List V},TwL L x y->TwL L' x y
 | _,_,.nil => .nil
 | _,_,.cons h k => .cons (B2d hL h) (Lx hL k)
end
theorem Ly {x y:V} (h:Tw (CkL true) x y):x=y:=B4q (λ_ _ h=>by cases h.1) h
theorem Ap {L:V->V->Prop} {x y:V} (h:TwL L [x] [y]):Tw L x y:=by
 cases h with
 | cons h k=>exact h
theorem A78 {S:St typ} {c:Ty} {j:Nat} {y:c.T} (h:S.asD (.d c j) c=some y):y=S.lv c j:=by
 simp only [St.asD,true_and] at h;split at h
 ·cases h;rfl
 ·cases h
section
variable {S:St typ} {base:Nat} {src:List (Ty×TV)} {R:List (Nat×Nat)} {f:Val}
theorem Bv (hf:Fit S base src f) {c:Ty} {i j:Nat} (h:okI base src c i j=true):f c i=S.lv c j:=by
 unfold okI at h;cases hb:Nat.blt i base with
 | true =>
  rw [hb,cond_true] at h;rw [hf.old c i (TV.C2 hb),Nat.eq_of_beq_eq_true h]
 | false =>
  rw [hb,cond_false] at h;split at h
  ·rename_i c' y hs;simp only [Bool.and_eq_true,decide_eq_true_eq] at h;obtain⟨⟨rfl,hd⟩,hy⟩:=h;have hy:=TV.O6 hy;subst hy;obtain⟨y,h1,h2⟩:=hf.new _ _ _ hs;have hi:base+(i-base)=i:=by
    have:¬ i<base:=λh=>by rw [TV.I7 h] at hb;cases hb
    omega
   rw [hi] at h2;rw [h2,A78 h1]
  ·cases h
theorem N1 {a b:V} (e:a=b) {L:V->V->Prop}:TwL L [a] [b]:=e ▸ .cons (.same _) .nil
theorem Gm [Hid] (hf:Fit S base src f):∀ {p:TV} {ex:Bool} {y:TV} {ls:U9},ck base src R p ex y=some ls->P4 S ls->TwL (CkL ex) (y.vs S.lv) ((p.vs f).map (V.ren (rnm R)))
 | .d c i,ex,y,ls,h,hl=>by
  unfold ck at h;cases hb:Nat.blt i base with
  | true =>
   rw [hb,cond_true] at h;cases he:y.beq (.d c i) with
   | false=>rw [he] at h;cases h
   | true =>
    have:=TV.O6 he;subst this;have e:=hf.old c i (TV.C2 hb);exact N1 (by simp only [V.ren,e])
  | false =>
   rw [hb,cond_false] at h;split at h
   ·rename_i c' y' hs;cases he:decide (c'=c)&&c.dat false&&y'.beq y && !y.isL&&(!ex || decide (Dp y=some c)) with
    | false=>rw [he] at h;cases h
    | true =>
     simp only [Bool.and_eq_true,decide_eq_true_eq,Bool.or_eq_true,Bool.not_eq_true'] at he;obtain⟨⟨⟨⟨rfl,hd⟩,hy⟩,hL⟩,hx⟩:=he;have hy:=TV.O6 hy;subst hy;obtain⟨z,h1,h2⟩:=hf.new _ _ _ hs;have hi:base+(i-base)=i:=by
      have:¬ i<base:=λh=>by rw [TV.I7 h] at hb;cases hb
      omega
     rw [hi] at h2;have hco:=W9 h1 hd;have e1:y'.vs S.lv=[y'.v S.lv]:=TV.G7 hL;rw [e1];show TwL (CkL ex) [y'.v S.lv] [V.ren (rnm R) (.d (c'.enc (f c' i)))];rw [h2];rcases hx with hx | hx
     ·exact .cons (.leaf ⟨hx,_,hco,rfl⟩) .nil
     ·have:y'.v S.lv = .d (c'.enc z):=by
       cases y'<;>simp only [Dp,Option.some.injEq,reduceCtorEq] at hx
       all_goals (subst hx;simp only [St.asD] at h1)
       ·split at h1
        ·cases h1;rfl
        ·cases h1
       ·cases h1;rfl
       ·simp at h1;cases h1;rfl
       ·cases h1;rfl
      exact N1 this
   ·cases h
 | .junk,ex,y,ls,h,hl=>by
  unfold ck at h;cases y<;>first | (exact N1 rfl) | (simp [TV.isJunk] at h)
 | .kb b,ex,y,ls,h,hl=>by
  unfold ck at h;cases he:y.beq (.kb b) with
  | false=>rw [he] at h;cases h
  | true=>rw [TV.O6 he];exact N1 rfl
 | .ki k n,ex,y,ls,h,hl=>by
  unfold ck at h;cases he:y.beq (.ki k n) with
  | false=>rw [he] at h;cases h
  | true=>rw [TV.O6 he];exact N1 rfl
 | .ks s,ex,y,ls,h,hl=>by
  unfold ck at h;cases he:y.beq (.ks s) with
  | false=>rw [he] at h;cases h
  | true=>rw [TV.O6 he];exact N1 rfl
 | .nils,ex,y,ls,h,hl=>by
  unfold ck at h;cases he:y.beq .nils with
  | false=>rw [he] at h;cases h
  | true=>rw [TV.O6 he];exact N1 rfl
 | .cst t,ex,y,ls,h,hl=>by
  unfold ck at h;cases he:y.beq (.cst t) with
  | false=>rw [he] at h;cases h
  | true=>rw [TV.O6 he];exact N1 (Ux _ t).symm
 | .ptr n o p,ex,y,ls,h,hl=>by
  cases y<;>simp only [ck,reduceCtorEq] at h;rename_i n' o' p';cases he:okN R n n'&&Nat.beq o o' && @BEq.beq (List Nat) _ p p' with
  | false=>rw [he] at h;cases h
  | true =>
   simp only [Bool.and_eq_true] at he;have e1:=Nat.eq_of_beq_eq_true he.1.1;have e2:=Nat.eq_of_beq_eq_true he.1.2;have e3:=eq_of_beq he.2;subst e1 e2 e3;exact N1 rfl
 | .eptr n sz k i o p,ex,y,ls,h,hl=>by
  cases y<;>simp only [ck,reduceCtorEq] at h;rename_i n' sz' k' j o' p';cases he:okN R n n'&&Nat.beq sz sz'&&decide (k=k')&&Nat.beq o o' && @BEq.beq (List Nat) _ p p'&&okI base src (.int k) i j with
  | false=>rw [he] at h;cases h
  | true =>
   simp only [Bool.and_eq_true,decide_eq_true_eq] at he;obtain⟨⟨⟨⟨⟨e1,e2⟩,rfl⟩,e3⟩,e4⟩,e5⟩:=he;have e1:=Nat.eq_of_beq_eq_true e1;have e2:=Nat.eq_of_beq_eq_true e2;have e3:=Nat.eq_of_beq_eq_true e3;have e4:=eq_of_beq e4;subst e1 e2 e3 e4;exact N1 (by simp only [V.ren,Bv hf e5])
 | .dptr c i,ex,y,ls,h,hl=>by
  cases y<;>simp only [ck,reduceCtorEq] at h;rename_i c' j;cases he:decide (c=c')&&okI base src c i j with
  | false=>rw [he] at h;cases h
  | true =>
   simp only [Bool.and_eq_true,decide_eq_true_eq] at he;obtain⟨rfl,e5⟩:=he;exact N1 (by simp only [V.ren,Bv hf e5])
 | .mref n,ex,y,ls,h,hl=>by
  cases y<;>simp only [ck,reduceCtorEq] at h;rename_i n';cases he:okN R n n' with
  | false=>rw [he] at h;cases h
  | true=>rw [<- Nat.eq_of_beq_eq_true he];exact N1 rfl
 | .sref n c k,ex,y,ls,h,hl=>by
  cases y<;>simp only [ck,reduceCtorEq] at h;rename_i n' c' j;cases he:okN R n n'&&decide (c=c') with
  | false=>rw [he] at h;cases h
  | true =>
   rw [he,cond_true] at h;simp only [Bool.and_eq_true,decide_eq_true_eq] at he;obtain⟨e1,rfl⟩:=he;have e1:=Nat.eq_of_beq_eq_true e1;subst e1;have fin:List.length (S.lv (.list c) j)=List.length (f (.list c) k)->TwL (CkL ex) (TV.vs S.lv (.sref (rnm R n) c j)) ((TV.vs f (.sref n c k)).map (V.ren (rnm R))):=λe =>
    N1 (by simp only [V.ren,e])
   cases hb:Nat.blt k base with
   | true =>
    rw [hb,cond_true] at h;have eo:=hf.old (.list c) k (TV.C2 hb);apply fin;rw [eo];cases hk:Nat.beq k j with
    | true=>rw [Nat.eq_of_beq_eq_true hk]
    | false =>
     rw [hk] at h;cases h;exact(hl (c,k,j) (List.mem_singleton.2 rfl)).symm
   | false =>
    rw [hb,cond_false] at h;split at h
    ·rename_i c2 c3 i hs;cases hq:decide (c2 = .list c)&&decide (c3 = .list c)&&c.dat false with
     | false=>rw [hq] at h;cases h
     | true =>
      rw [hq,cond_true] at h;simp only [Bool.and_eq_true,decide_eq_true_eq] at hq;obtain⟨⟨rfl,rfl⟩,hd⟩:=hq;obtain⟨z,h1,h2⟩:=hf.new _ _ _ hs;have hi:base+(k-base)=k:=by
       have:¬ k<base:=λh=>by rw [TV.I7 h] at hb;cases hb
       omega
      rw [hi] at h2;have e2:=A78 h1;apply fin;rw [h2,e2];cases hk:Nat.beq i j with
      | true=>rw [Nat.eq_of_beq_eq_true hk]
      | false =>
       rw [hk] at h;cases h;exact(hl (c,i,j) (List.mem_singleton.2 rfl)).symm
    ·cases h
 | .qref n i,ex,y,ls,h,hl=>by
  cases y<;>simp only [ck,reduceCtorEq] at h;rename_i n' j;cases he:okN R n n'&&okI base src (.list (.int .i64)) i j with
  | false=>rw [he] at h;cases h
  | true =>
   simp only [Bool.and_eq_true] at he;have e1:=Nat.eq_of_beq_eq_true he.1;subst e1;exact N1 (by simp only [V.ren,Bv hf he.2])
 | .func g x,ex,y,ls,h,hl=>by
  cases y<;>simp only [ck,reduceCtorEq] at h;rename_i g' y;cases he:Nat.beq g g' with
  | false=>rw [he] at h;cases h
  | true =>
   rw [he,cond_true] at h;have:=Nat.eq_of_beq_eq_true he;subst this;have ih:=Sa (λ_ _ h=>by cases h.1) (Gm hf (p:=x) (ex:=true) h hl);exact N1 (by rw [ih,V.ren,TV.S6])
 | .st x,ex,y,ls,h,hl=>by
  cases y<;>simp only [ck,reduceCtorEq] at h;rename_i y;have ih:=Gm hf (p:=x) h hl;exact .cons (by
   show Tw (CkL ex) (.st (y.vs S.lv)) (V.ren (rnm R) (.st (x.vs f)));rw [V.ren,TV.S6];exact .st ih) .nil
 | .nil,ex,y,ls,h,hl=>by
  cases y<;>simp only [ck,reduceCtorEq] at h;exact .nil
 | .cons a b,ex,y,ls,h,hl=>by
  cases y<;>simp only [ck,reduceCtorEq] at h;rename_i a' b';cases h1:ck base src R a ex a' with
  | none=>rw [h1] at h;cases h
  | some l1 =>
   rw [h1,Option.bind_some] at h;cases hL:a.isL || a'.isL with
   | true=>rw [hL] at h;cases h
   | false =>
    rw [hL,cond_false] at h;rw [Bool.or_eq_false_iff] at hL;cases h2:ck base src R b ex b' with
    | none=>rw [h2] at h;cases h
    | some l2 =>
     rw [h2] at h;cases h;have i1:=Gm hf h1 (λq hq=>hl q (List.mem_append_left _ hq));have i2:=Gm hf h2 (λq hq=>hl q (List.mem_append_right _ hq));rw [TV.G7 hL.1,TV.G7 hL.2] at i1;exact .cons (Ap i1) i2
 | .alt g x y,ex,z,ls,h,hl=>by
  unfold ck at h;cases hL:x.isL || y.isL with
  | true=>rw [hL] at h;cases h
  | false =>
   rw [hL,cond_false] at h;rw [Bool.or_eq_false_iff] at hL;split at h
   ·rename_i g' x' y';cases he:okI base src .bool g g' && !x'.isL && !y'.isL with
    | false=>rw [he] at h;cases h
    | true =>
     rw [he,cond_true] at h;simp only [Bool.and_eq_true,Bool.not_eq_true'] at he;cases h1:ck base src R x true x' with
     | none=>rw [h1] at h;cases h
     | some l1 =>
      rw [h1,Option.bind_some] at h;cases h2:ck base src R y true y' with
      | none=>rw [h2] at h;cases h
      | some l2 =>
       rw [h2] at h;cases h;have i1:=Gm hf h1 (λq hq=>hl q (List.mem_append_left _ hq));have i2:=Gm hf h2 (λq hq=>hl q (List.mem_append_right _ hq));rw [TV.G7 hL.1,TV.G7 he.1.2] at i1;rw [TV.G7 hL.2,TV.G7 he.2] at i2;have e1:=Ly (Ap i1);have e2:=Ly (Ap i2);have e0:=Bv hf he.1.1;refine N1 ?_;show @cond V (S.lv .bool g') (x'.v S.lv) (y'.v S.lv)=V.ren (rnm R) (@cond V (f .bool g) (x.v f) (y.v f));rw [e1,e2,e0];cases S.lv .bool g'<;>rfl
   ·rename_i hne;cases hb:Nat.blt g base || z.isL with
    | true=>rw [hb] at h;cases h
    | false =>
     rw [hb,cond_false] at h;rw [Bool.or_eq_false_iff] at hb;have hi:base+(g-base)=g:=by
      have:¬ g<base:=λh=>by rw [TV.I7 h] at hb;cases hb.1
      omega
     have out:(TV.alt g x y).vs f=[@cond V (f .bool g) (x.v f) (y.v f)]:=rfl;split at h
     ·rename_i hs;obtain⟨q,h1,h2⟩:=hf.new _ _ _ hs;rw [hi] at h2;have hq:q=true:=by cases h1;rfl
      have i1:=Gm hf h hl;rw [out,h2,hq];rw [TV.G7 hL.1] at i1;exact i1
     ·rename_i hs;obtain⟨q,h1,h2⟩:=hf.new _ _ _ hs;rw [hi] at h2;have hq:q=false:=by cases h1;rfl
      have i1:=Gm hf h hl;rw [out,h2,hq];rw [TV.G7 hL.2] at i1;exact i1
     ·cases h
 | .undef,ex,y,ls,h,hl | .qptr ..,ex,y,ls,h,hl | .tref ..,ex,y,ls,h,hl | .aptr ..,ex,y,ls,h,hl | .tup _,ex,y,ls,h,hl | .opt _ _ _,ex,y,ls,h,hl=>by simp [ck] at h
theorem A26 [Hid] (hf:Fit S base src f) {p y:TV} {ex:Bool} {ls:U9} (h:ck base src R p ex y=some ls) (hl:P4 S ls) (hp:p.isL=false) (hy:y.isL=false):Tw (CkL ex) (y.v S.lv) ((p.v f).ren (rnm R)):=by
 have:=Gm hf h hl;rw [TV.G7 hp,TV.G7 hy] at this;exact Ap this
theorem A79 [Hid] (hf:Fit S base src f) {p y:TOb} {ls:U9} (h:ckO base src R true p y=some ls) (hl:P4 S ls):y.o S.lv=(p.o f).ren (rnm R):=by
 unfold ckO at h;split at h
 ·rename_i t x t' z;cases hb:Nat.beq t t' && !x.isL && !z.isL with
  | false=>rw [hb] at h;cases h
  | true =>
   rw [hb,cond_true] at h;simp only [Bool.and_eq_true,Bool.not_eq_true'] at hb;have e:=Ly (A26 hf h hl hb.1.2 hb.2);simp only [TOb.o,Ob.ren,e,Nat.eq_of_beq_eq_true hb.1.1]
 ·rename_i e c i e' c' j;cases hb:Nat.beq e e'&&decide (c=c')&&okI base src (.list c) i j with
  | false=>rw [hb] at h;cases h
  | true =>
   simp only [Bool.and_eq_true,decide_eq_true_eq] at hb;obtain⟨⟨e1,rfl⟩,e2⟩:=hb;simp only [TOb.o,Ob.ren,Bv hf e2,Nat.eq_of_beq_eq_true e1]
 ·rename_i kc vc i kc' vc' j;cases hb:decide (kc=kc')&&decide (vc=vc')&&okI base src (.list (.st (.pr kc vc))) i j with
  | false=>rw [hb] at h;cases h
  | true =>
   simp only [Bool.and_eq_true,decide_eq_true_eq] at hb;obtain⟨⟨rfl,rfl⟩,e2⟩:=hb;have e:=Bv hf e2;simp only [TOb.o,Ob.ren,e]
 ·rename_i g c i g' c' j;cases hb:Nat.beq g g'&&decide (c=c')&&okI base src c i j with
  | false=>rw [hb] at h;cases h
  | true =>
   simp only [Bool.and_eq_true,decide_eq_true_eq] at hb;obtain⟨⟨e1,rfl⟩,e2⟩:=hb;have e:=Bv hf e2;simp only [TOb.o,Ob.ren,e,Nat.eq_of_beq_eq_true e1]
 ·rename_i e i e' j;cases hb:Nat.beq e e'&&okI base src (.list (.int .i64)) i j with
  | false=>rw [hb] at h;cases h
  | true =>
   simp only [Bool.and_eq_true] at hb;simp only [TOb.o,Ob.ren,Bv hf hb.2,Nat.eq_of_beq_eq_true hb.1]
 ·rename_i e c i q x e' c' j q' z;cases hb:Nat.beq e e'&&decide (c=c')&&Nat.beq q q'&&okI base src (.list c) i j && !x.isL && !z.isL with
  | false=>rw [hb] at h;cases h
  | true =>
   rw [hb,cond_true] at h;simp only [Bool.and_eq_true,decide_eq_true_eq,Bool.not_eq_true'] at hb;obtain⟨⟨⟨⟨⟨e1,rfl⟩,e3⟩,e2⟩,e4⟩,e5⟩:=hb;have ev:=Ly (A26 hf h hl e4 e5);have e:=Bv hf e2;simp only [TOb.o,Ob.ren,e,ev,Nat.eq_of_beq_eq_true e1,Nat.eq_of_beq_eq_true e3,TV.S6,Px]
 ·cases h
end
end Go.Vc
namespace Go.Vc
open Go
variable {P:Program}
structure Sg (A:Alg) where
 fid:FuncId
 args:List TV
 po:List (Nat×TOb)
 ci:List Ty
 co:List Ty
 res:TV
 ro:List (Nat×Option TOb)
 run:A.I (J3 ci)->A.M (J3 co)
noncomputable def N7 (l:List (Lf typ)):Val:=λc i=>St.lvL typ (St.pushL 0 l []) c i
def COk (P:Program) (g:Sg typ):Prop:=∀ x r,g.run x=some r ->
 AC P g.fid (g.args.map (TV.v (N7 (C4 typ g.ci x)))) (g.po.map λp=>(p.1,p.2.o (N7 (C4 typ g.ci x))))
  (g.res.v (N7 (C4 typ g.ci x++C4 typ g.co r))) (oOf (N7 (C4 typ g.ci x++C4 typ g.co r)) g.ro)
def TV.nq:TV->Bool
 | qref _ _ | qptr _ _ _ | tref .. => false
 | func _ x | st x | tup x | opt _ _ x=>x.nq
 | alt _ x y | cons x y=>x.nq&&y.nq
 | _=>true
def TOb.nq:TOb->Bool
 | box _ x | vrow _ _ _ _ x=>x.nq
 | qrow _ _=>false
 | _=>true
theorem TV.vs_nq (h h':Hid) {f:Val}:∀ {x:TV},x.nq=true -> @TV.vs h f x = @TV.vs h' f x
 | junk,_ | undef,_ | d _ _,_ | kb _,_ | ki _ _,_ | ks _,_ | nils,_ | cst _,_ | ptr _ _ _,_ | eptr ..,_ | aptr ..,_ | dptr _ _,_ | sref _ _ _,_ | mref _,_ | nil,_=>rfl
 | func _ x,k | st x,k | tup x,k | opt _ _ x,k=>by
  have:=TV.vs_nq h h' (f:=f) (x:=x) k;simp only [vs,this]
 | alt _ x y,k | cons x y,k=>by
  simp only [nq,Bool.and_eq_true] at k;have h1:=TV.vs_nq h h' (f:=f) k.1;have h2:=TV.vs_nq h h' (f:=f) k.2;simp only [vs,h1,h2]
theorem TV.v_nq (h h':Hid) {f:Val} {x:TV} (k:x.nq=true):@TV.v h f x = @TV.v h' f x:=by simp only [v,TV.vs_nq h h' k]
theorem TOb.o_nq (h h':Hid) {f:Val}:∀ {x:TOb},x.nq=true -> @TOb.o h f x = @TOb.o h' f x
 | box _ x,k=>by simp only [o,TV.v_nq h h' (x:=x) k]
 | vrow _ _ _ _ x,k=>by simp only [o,TV.v_nq h h' (x:=x) k]
 | row _ _ _,_ | map _ _ _,_ | glob _ _ _,_=>rfl
def Sg.nq {A:Alg} (g:Sg A):Bool:=g.args.all TV.nq&&g.po.all (λp=>p.2.nq)&&g.res.nq&&g.ro.all λp=>match p.2 with | some o=>o.nq | none=>true
theorem A7a (h h':Hid) {f:Val} {l:List (Nat×Option TOb)} (k:(l.all λp=>match p.2 with | some o=>o.nq | none=>true)=true):@oOf h f l = @oOf h' f l:=by
 refine List.map_congr_left λp hp => ?_;have:=List.all_eq_true.1 k p hp;obtain⟨n,o⟩:=p;cases o with
 | none=>rfl
 | some o=>simp only [Option.map_some,TOb.o_nq h h' (x:=o) this]
theorem B5g (h h':Hid) {f:Val} {l:List (Nat×TV)} (k:(l.all λp=>p.2.nq)=true):@eOf h f l = @eOf h' f l:=List.map_congr_left λp hp=>by rw [TV.v_nq h h' (List.all_eq_true.1 k p hp)]
theorem COk.hid [Hid] {g:Sg typ} (hg:COk P g) (hq:g.nq=true) {x:(J3 g.ci).T} {r:(J3 g.co).T} (h:g.run x=some r):AC P g.fid (g.args.map (TV.v (N7 (C4 typ g.ci x)))) (g.po.map λp=>(p.1,p.2.o (N7 (C4 typ g.ci x))))
  (g.res.v (N7 (C4 typ g.ci x++C4 typ g.co r))) (oOf (N7 (C4 typ g.ci x++C4 typ g.co r)) g.ro):=by
 rename_i i;simp only [Sg.nq,Bool.and_eq_true] at hq;obtain⟨⟨⟨q1,q2⟩,q3⟩,q4⟩:=hq;have:=hg x r h;have e1:g.args.map (@TV.v hid0 (N7 (C4 typ g.ci x)))=g.args.map (@TV.v i (N7 (C4 typ g.ci x))):=List.map_congr_left λv hv=>TV.v_nq _ _ (List.all_eq_true.1 q1 v hv);have e2:(g.po.map λp=>(p.1,@TOb.o hid0 (N7 (C4 typ g.ci x)) p.2))=g.po.map λp=>(p.1,@TOb.o i (N7 (C4 typ g.ci x)) p.2):=List.map_congr_left λp hp=>by rw [TOb.o_nq hid0 i (List.all_eq_true.1 q2 p hp)]
 rw [e1,e2,TV.v_nq hid0 i q3,A7a hid0 i q4] at this;exact this
def fnB (P:Program) (f:FuncId):Bool:=match P.funcs[f]? with
 | some fn => !(fn.name == "runtime.NumGoroutine") && !fn.body.isNone
 | none=>false
theorem Sb {f:FuncId} (h:fnB P f=true):Ww P f:=by
 unfold fnB at h;split at h
 ·rename_i fn hf;simp only [Bool.and_eq_true,Bool.not_eq_true'] at h;exact⟨by rw [hf];simp [h.1,h.2]⟩
 ·cases h
section
variable {A:Alg}
def St.ops (S:St A):List Operand->Option (List TV)
 | []=>some []
 | x :: xs=>match S.op x,S.ops xs with
  | some y,some ys=>some (y :: ys)
  | _,_=>none
def B76:List Operand->List Nat
 | []=>[]
 | x :: xs=>rdk x++B76 xs
def m1A:List TV->List TV->Mt->Mt
 | p :: ps,y :: ys,m=>m1A ps ys (m1 0 p y m)
 | _,_,m=>m
def B77 (S:St A):List (Nat×TOb)->Mt->Mt
 | [],m=>m
 | (n,p) :: l,m=>match A1 S.O (rnm m.R n) with
  | some (some y)=>B77 S l (m1O 0 p y m)
  | _=>B77 S l m
def ckA (src:List (Ty×TV)) (R:List (Nat×Nat)) (ex:Bool):List TV->List TV->Option U9
 | [],[]=>some []
 | p :: ps,y :: ys=>(ck 0 src R p ex y).bind λl=>bif p.isL || y.isL then none else (ckA src R ex ps ys).map λl'=>l++l'
 | _,_=>none
def A9w (S:St A) (src:List (Ty×TV)) (R:List (Nat×Nat)):List (Nat×TOb)->Option U9
 | []=>some []
 | (n,p) :: l=>match A1 S.O (rnm R n) with
  | some (some y)=>(ckO 0 src R true p y).bind λl1=>(A9w S src R l).map λl2=>l1++l2
  | _=>none
def A0z (nx:Nat) (po:List (Nat×TOb)):List (Nat×Option TOb)->List (Nat×Nat)
 | []=>[]
 | (n,_) :: l=>bif memB n (B8 po) then A0z nx po l else (n,nx) :: A0z (nx+1) po l
def A9x (R:List (Nat×Nat)) (po:List (Nat×TOb)) (ro:List (Nat×Option TOb)):List Nat:=(ro.filter λp => !memB p.1 (B8 po)).map λp=>rnm R p.1
def Lb (R:List (Nat×Nat)) (args:List TV) (po:List (Nat×TOb)) (ro:List (Nat×Option TOb)):Bool :=
 (args.all λv=>v.wf && !v.isL && !v.top)&&(args.all λv=>v.names.all λn=>memB n (B8 po)) &&
 (po.all λp=>p.2.wf&&p.2.names.all λn=>memB n (B8 po)) &&
 (ro.all λp=>ro.all λq => !Nat.beq (rnm R p.1) (rnm R q.1) || Nat.beq p.1 q.1) &&
 (po.all λp=>memB p.1 (B8 ro)&&Nat.blt p.1 1000) &&
 (ro.all λp=>memB p.1 (B8 po) || Nat.ble 1000 (rnm R p.1))
def wtD (d:Option Nat) (x:TV):List (Nat×TV):=match d with
 | some d=>[(d,x)]
 | none=>[]
def TV.toL:TV->List TV
 | .cons a b=>a :: TV.toL b
 | _=>[]
def Xb (l:List TV):Bool:=l.all λx => !x.agg&&x.sz?.isSome && !x.isL
def A37 (S:St A):List (Nat×TOb)->List (Nat×Nat)
 | []=>[]
 | (n,.glob v _ _) :: l=>match Qx v S.O with
  | some m=>(n,m) :: A37 S l
  | none=>A37 S l
 | _ :: l=>A37 S l
def A9y (S:St A) (g:Sg A) (ys:List TV):Mt :=
 let m:=B77 S g.po (m1A g.args ys { R:=A37 S g.po })
 { m with R:=A0z S.nx g.po g.ro++m.R }
def wIx (nl:Nat) (n:Nat) (src:List (Ty×TV)) (c:Ty) (i:Nat):Nat:=bif Nat.blt i n then (match src[i]? with
 | some (c',.d c3 j)=>bif decide (c'=c)&&decide (c3=c)&&Nat.blt j nl then j else nl+i
 | _=>nl+i) else nl+i
def Tp (P:Program) (S:St A) (d:Option Nat) (g:Sg A) (xs:List Operand) (ys cs:List TV) (tn:List Nat) (R:List (Nat×Nat)) (src:List (Ty×TV)):Option (Stp A) :=
 match ckA src R false (g.args.take xs.length) ys,ckA src R true (g.args.drop xs.length) cs,A9w S src R g.po,Hb S src g.ci with
 | some l1,some l3,some l2,some x =>
  bif fnB P g.fid&&Lb R g.args g.po g.ro&&((A9x R g.po g.ro).all λn=>(A1 S.O n).isNone)&&Xb cs&&g.res.lt (g.ci.length+g.co.length)&&St.ltO (g.ci.length+g.co.length) g.ro && !g.res.isL&&g.nq then
   some (.bind (J3 g.co) (Hc S (J3 g.co) (l1++(l3++l2)) (g.run x)) (λr=>C4 A g.ci x++C4 A g.co r)
    { nt:=B76 xs++tn,no:=g.po.map (λp=>rnm R p.1),nf:=A9x R g.po g.ro,wt:=wtD d ((g.res.ren (rnm R)).sh (wIx S.nl g.ci.length src)),wo:=g.ro.map λp=>(rnm R p.1,p.2.map λo=>(o.ren (rnm R)).sh (wIx S.nl g.ci.length src)) })
  else none
 | _,_,_,_=>none
def Jb (P:Program) (S:St A) (d:Option Nat) (g:Sg A) (xs:List Operand) (cs:List TV) (tn:List Nat):Option (Stp A) :=
 match S.ops xs with
 | some ys=>let m:=A9y S g (ys++cs);Tp P S d g xs ys cs tn m.R m.src
 | none=>none
end
section
variable {P:Program} {B:D5} {S:St typ} {opl:Array Oper} {ty:TypeId} {pos:String} {af:Array Edge}
variable {ts:Array TypeId} {R:List (Nat×Nat)} {src:List (Ty×TV)} {xs:List Operand} {cs:List Ty} {d:Option Nat} {g:Sg typ} {s:Stp typ} {f:Val} {x:(J3 cs).T}
theorem A7b [Hid]:∀ {xs:List Operand} {ys:List TV},S.ops xs=some ys->∃ nt,Gz xs (ys.map (TV.v S.lv)) nt∧rE S.e nt=rE' nt∧B8 nt=B76 xs
 | [],ys,h=>by
  simp only [St.ops,Option.some.injEq] at h;subst h;exact⟨[],.nil,rfl,rfl⟩
 | x :: xs,ys,h=>by
  simp only [St.ops] at h;split at h
  ·rename_i y ys' hy hl;cases h;obtain⟨nt2,k1,k2,k3⟩:=A7b hl;exact⟨_,.cons (B6 hy).1 k1,E4 (B6 hy).2 k2,by rw [D6,C5,k3];rfl⟩
  ·cases h
theorem A27:∀ {xs:List Operand} {vs ws:List V} {nt:EL},Gz xs vs nt->TwL Tc vs ws->Gz xs ws nt
 | _,_,_,_,.nil,h=>by cases h;exact .nil
 | _,_,_,_,.cons hx k,h=>by
  cases h with
  | cons h h'=>exact .cons (Opd.tw hx h) (A27 k h')
theorem Yx [Hid] {src:List (Ty×TV)} {R:List (Nat×Nat)} {f:Val} (hf:Fit S 0 src f) {ex:Bool}:∀ {ps ys:List TV} {ls:U9},ckA src R ex ps ys=some ls->P4 S ls->TwL (CkL ex) (ys.map (TV.v S.lv)) (V.renL (rnm R) (ps.map (TV.v f)))
 | [],[],_,_,_ => .nil
 | p :: ps,y :: ys,ls,h,hl=>by
  simp only [ckA] at h;cases h1:ck 0 src R p ex y with
  | none=>rw [h1] at h;cases h
  | some l1 =>
   rw [h1,Option.bind_some] at h;cases hL:p.isL || y.isL with
   | true=>rw [hL] at h;cases h
   | false =>
    rw [hL,cond_false] at h;rw [Bool.or_eq_false_iff] at hL;cases h2:ckA src R ex ps ys with
    | none=>rw [h2] at h;cases h
    | some l2 =>
     rw [h2] at h;cases h;exact .cons (A26 hf h1 (λq hq=>hl q (List.mem_append_left _ hq)) hL.1 hL.2) (Yx hf h2 (λq hq=>hl q (List.mem_append_right _ hq)))
 | [],_ :: _,_,h,_ | _ :: _,[],_,h,_=>by simp [ckA] at h
theorem A28 [Hid] {src:List (Ty×TV)} {R:List (Nat×Nat)} {f:Val} (hf:Fit S 0 src f):∀ {po:List (Nat×TOb)} {ls:U9},A9w S src R po=some ls->P4 S ls->rO S.o (Tb R (po.map λp=>(p.1,p.2.o f)))=rO' (Tb R (po.map λp=>(p.1,p.2.o f)))
 | [],_,_,_=>rfl
 | (n,p) :: l,ls,h,hl=>by
  simp only [A9w] at h;split at h
  ·rename_i y hy;cases h1:ckO 0 src R true p y with
   | none=>rw [h1] at h;cases h
   | some l1 =>
    rw [h1,Option.bind_some] at h;cases h2:A9w S src R l with
    | none=>rw [h2] at h;cases h
    | some l2 =>
     rw [h2] at h;cases h;have e:=A79 hf h1 (λq hq=>hl q (List.mem_append_left _ hq));have ih:=A28 hf h2 (λq hq=>hl q (List.mem_append_right _ hq));have hy':A1 S.o (rnm R n)=some (some ((p.o f).ren (rnm R))):=by rw [F4,hy];simp only [Option.map_some,e]
     simp only [Tb,List.map_cons,rO,rO',hy'] at ih ⊢;rw [ih]
  ·cases h
theorem Bw (l:List (Lf typ)):∀ (m k:Nat) (L:List (Nat×Lf typ)),k<l.length->A1 (St.pushL m l L) (m+k)=l[k]? :=by
 have old:∀ (l:List (Lf typ)) (m i:Nat) (L:List (Nat×Lf typ)),i<m->A1 (St.pushL m l L) i=A1 L i:=by
  intro l;induction l with
  | nil=>intro m i L h;rfl
  | cons x l ih=>intro m i L h;rw [St.pushL,ih _ _ _ (by omega),A4,if_neg (by omega)]
 induction l with
 | nil=>intro m k L h;simp at h
 | cons x l ih =>
  intro m k L h;cases k with
  | zero=>rw [St.pushL,old _ _ _ _ (by omega),Nat.add_zero,A4,if_pos rfl];rfl
  | succ k =>
   rw [St.pushL,show m+(k+1)=m+1+k from by omega,ih _ _ _ (by simpa using h)];simp
theorem A4s {lf:List (Lf typ)} (c:Ty) (i:Nat) (h:i<lf.length):S.push lf c (S.nl+i)=N7 lf c i:=by
 unfold St.push N7 St.lvL;have:=Bw lf 0 i [] h;rw [Nat.zero_add] at this;rw [Bw lf S.nl i S.L h,this]
theorem Kt {l:List (Lf typ)} {k:Nat} {c:Ty} {x:c.T} (h:l[k]? = some ⟨c,x⟩):N7 l c k=x:=by
 have:=Yk l 0 [] k c x h;rw [Nat.zero_add] at this;exact this
theorem A7c {a b:List (Lf typ)} (c:Ty) (i:Nat) (h:i<a.length):N7 (a++b) c i=N7 a c i:=by
 unfold N7 St.lvL;have h1:=Bw (a++b) 0 i [] (by rw [List.length_append];omega);have h2:=Bw a 0 i [] h;rw [Nat.zero_add] at h1 h2;rw [h1,h2,List.getElem?_append_left h]
theorem C2q (h:Hb S src cs=some x):Fit S 0 src (N7 (C4 typ cs x)) :=
 ⟨λc i h=>absurd h (Nat.not_lt_zero _),λk c y hk=>by
  obtain⟨_,z,h1,h2⟩:=Ao h k c y hk;exact⟨z,h1,by rw [Nat.zero_add];exact Kt h2⟩⟩
theorem B5h {co:List Ty} {r:(J3 co).T} (h:Hb S src cs=some x) (c:Ty) (i:Nat) (hi:i<cs.length+co.length) :
  S.push (C4 typ cs x++C4 typ co r) c (wIx S.nl cs.length src c i)=N7 (C4 typ cs x++C4 typ co r) c i:=by
 have old:S.push (C4 typ cs x++C4 typ co r) c (S.nl+i)=N7 (C4 typ cs x++C4 typ co r) c i:=A4s c i (by rw [List.length_append,Bu,Bu];exact hi);unfold wIx;cases hb:Nat.blt i cs.length with
 | false=>exact old
 | true =>
  have hlt:=TV.C2 hb;rw [cond_true];split
  ·rename_i c' c3 j hs;cases hq:decide (c'=c)&&decide (c3=c)&&Nat.blt j S.nl with
   | false=>exact old
   | true =>
    simp only [Bool.and_eq_true,decide_eq_true_eq] at hq;obtain⟨⟨rfl,rfl⟩,hj⟩:=hq;obtain⟨_,z,h1,h2⟩:=Ao h i _ _ hs;rw [cond_true,D8 _ _ (TV.C2 hj),A7c _ _ (by rw [Bu];exact hlt),Kt h2];exact(A78 h1).symm
  ·exact old
theorem Py [Hid] (l:List (Nat×TOb)):B8 (l.map λp=>(p.1,p.2.o f))=B8 l:=by simp [B8]
theorem Gn [Hid] (l:List (Nat×Option TOb)):B8 (oOf f l)=B8 l:=by simp [B8,oOf]
theorem Aq [Hid] {po:List (Nat×TOb)} {ro:List (Nat×Option TOb)} {f':Val}:Z8 R (po.map λp=>(p.1,p.2.o f)) (oOf f' ro)=A9x R po ro:=by
 unfold Z8 A9x;rw [Py,oOf,List.filter_map,List.map_map];rfl
theorem A4t [Hid] {R:List (Nat×Nat)} {args:List TV} {po:List (Nat×TOb)} {ro:List (Nat×Option TOb)} {f f':Val} (h:Lb R args po ro=true):Z9 R (args.map (TV.v f)) (po.map λp=>(p.1,p.2.o f)) (oOf f' ro)=true:=by
 unfold Lb at h;simp only [Bool.and_eq_true,List.all_eq_true,Bool.not_eq_true'] at h;obtain⟨⟨⟨⟨⟨h1,h2⟩,h3⟩,h4⟩,h5⟩,h6⟩:=h;unfold Z9;rw [Py,Gn];simp only [Bool.and_eq_true,List.all_eq_true,List.mem_map,forall_exists_index,and_imp,forall_apply_eq_imp_iff₂];refine⟨⟨⟨⟨⟨⟨λv hv => ?_,λv hv => ?_⟩,λp hp => ?_⟩,?_⟩,λp hp=>h5 p hp⟩,?_⟩,?_⟩
 ·simp only [Q4,Bool.not_eq_true'];exact Lt (h1 v hv).2
 ·exact List.all_eq_true.1 (TV.Gl (h1 v hv).1.1 (h1 v hv).1.2 (List.all_eq_true.2 (h2 v hv)))
 ·exact List.all_eq_true.1 (TOb.Rz (h3 p hp).1 (List.all_eq_true.2 (h3 p hp).2))
 ·intro p hp q hq;simp only [oOf,List.mem_map] at hp hq;obtain⟨p',hp',rfl⟩:=hp;obtain⟨q',hq',rfl⟩:=hq;exact h4 p' hp' q' hq'
 ·intro p hp;simp only [oOf,List.mem_map] at hp;obtain⟨p',hp',rfl⟩:=hp;exact h6 p' hp'
 ·intro p hp;simp only [oOf,List.mem_map] at hp;obtain⟨p',hp',rfl⟩:=hp;cases p'.2 with
  | none=>rfl
  | some o=>exact TOb.A25 o
theorem A4u {r:Nat->Nat}:∀ {vs:List V},vs.all Q4=true->(V.renL r vs).all Q4=true:=by
 intro vs;rw [TV.S6];intro h;rw [List.all_map];refine List.all_eq_true.2 λv hv => ?_;have:=List.all_eq_true.1 h v hv;cases v<;>exact this
theorem A29 [Hid]:∀ {l:List Nat},(l.all λn=>(A1 S.O n).isNone)=true->rF S.o l=rF' l
 | [],_=>rfl
 | n :: l,h=>by
  rw [List.all_cons,Bool.and_eq_true] at h;have:A1 S.O n=none:=Option.isNone_iff_eq_none.1 h.1;simp only [rF,rF',F4,this,Option.map_none,A29 h.2]
theorem Z4 {n:Nat} {r:Nat->Nat}:∀ {x:TV},x.lt n=true->(x.ren r).lt n=true
 | .junk,h | .undef,h | .d _ _,h | .kb _,h | .ki _ _,h | .ks _,h | .nils,h | .cst _,h | .dptr _ _,h | .nil,h | .ptr _ _ _,h | .eptr ..,h | .aptr ..,h | .sref _ _ _,h | .qref _ _,h | .qptr _ _ _,h | .tref ..,h | .mref _,h=>h
 | .func _ x,h=>Z4 (x:=x) h
 | .st x,h=>Z4 (x:=x) h
 | .tup x,h=>Z4 (x:=x) h
 | .alt g x y,h=>by
  simp only [TV.lt,TV.ren,Bool.and_eq_true] at h ⊢;exact⟨h.1,Z4 h.2.1,Z4 h.2.2⟩
 | .opt _ _ x,h | .cons x _,h=>by
  simp only [TV.lt,TV.ren,Bool.and_eq_true] at h ⊢
  first
   | exact⟨h.1,Z4 h.2⟩
   | exact⟨Z4 h.1,Z4 h.2⟩
theorem Vk [Hid] {f:Val}:∀ {l:List TV},Xb l=true->(l.map (TV.v f)).all (λv => !v.isAgg)=true
 | [],_=>rfl
 | x :: l,h=>by
  simp only [Xb,List.all_cons,Bool.and_eq_true,Bool.not_eq_true'] at h;have ih:=Vk (f:=f) (l:=l) (by simpa [Xb] using h.2);simp only [List.map_cons,List.all_cons,ih,Bool.and_true,Bool.not_eq_true'];rw [TV.Et h.1.2 (λe=>by rw [e] at h;simp at h)];exact h.1.1.1
theorem A2a [Hid] {R:List (Nat×Nat)} {fo f':Val} {m:Ty->Nat->Nat} {n:Nat} (h:∀ c i,i<n->f' c (m c i)=fo c i):∀ {ro:List (Nat×Option TOb)},St.ltO n ro=true->Em R (oOf fo ro)=oOf f' (ro.map λp=>(rnm R p.1,p.2.map λo=>(o.ren (rnm R)).sh m))
 | [],_=>rfl
 | (k,o) :: ro,hl=>by
  simp only [St.ltO,Bool.and_eq_true] at hl;have ih:=A2a (R:=R) h (ro:=ro) hl.2;simp only [Em,oOf,List.map_cons] at ih ⊢;rw [ih];cases o with
  | none=>rfl
  | some o =>
   have hlo:(o.ren (rnm R)).lt n=true:=by
    cases o with
    | box t x=>exact Z4 (x:=x) hl.1
    | row e c i=>exact hl.1
    | map kc vc i=>exact hl.1
    | glob g c i=>exact hl.1
    | qrow e j=>exact hl.1
    | vrow e c j pos x =>
     have h1:Nat.blt j n=true∧x.lt n=true:=by simpa only [TOb.lt,Bool.and_eq_true] using hl.1
     show(Nat.blt j n&&(x.ren (rnm R)).lt n)=true;simp only [Bool.and_eq_true];exact⟨h1.1,Z4 (x:=x) h1.2⟩
   simp only [Option.map_some,TOb.o_sh h hlo,TOb.B9b]
theorem Lz [Hid] (hB:B.ok) (hg:COk P g) (hN:∀ k,d=some k->k<B.N) {ys cs:List TV} {tn:List Nat} (hys:S.ops xs=some ys) (h:Tp P S d g xs ys cs tn R src=some s) {c:Operand} (hc:(cs=[]∧tn=[]∧c = .func g.fid)∨∃ t cv k,tn=[t]∧c = .tmp t∧A1 S.E t=some (.func g.fid cv)∧cv.vs S.lv=cs.map (TV.v S.lv)∧d=some k) :
  s.Ok P B opl ⟨d,.call { callee:=.value c,args:=xs.toArray,argTypes:=ts },ty,pos,af,none⟩ S:=by
 unfold Tp at h;split at h
 ·rename_i l1 l3 l2 x h1 h3 h2 hx;cases hb:fnB P g.fid&&Lb R g.args g.po g.ro&&((A9x R g.po g.ro).all λn=>(A1 S.O n).isNone)&&Xb cs&&g.res.lt (g.ci.length+g.co.length)&&St.ltO (g.ci.length+g.co.length) g.ro && !g.res.isL&&g.nq with
  | false=>rw [hb] at h;cases h
  | true =>
   rw [hb] at h;cases h;simp only [Bool.and_eq_true] at hb;obtain⟨⟨⟨⟨⟨⟨⟨b1,b2⟩,b3⟩,b4⟩,b5⟩,b6⟩,b7⟩,b8⟩:=hb;intro r hr;obtain⟨hl,hr⟩:=Jx hr;have hl1:P4 S l1:=λq hq=>hl q (by simp [hq]);have hl2:P4 S l2:=λq hq=>hl q (by simp [hq]);have hl3:P4 S l3:=λq hq=>hl q (by simp [hq]);have hf:=C2q hx;have hac:=hg.hid b8 hr;generalize hfi:N7 (C4 typ g.ci x)=fi at hac hf;generalize hfo:N7 (C4 typ g.ci x++C4 typ g.co r)=fo at hac;obtain⟨nt,k1,k2,k3⟩:=A7b hys;have t1:=Yx hf h1 hl1;have t2:=A27 k1 (Lx (λ_ _ h=>h.2) t1);have t3:=Sa (λ_ _ h=>by cases h.1) (Yx hf h3 hl3);have hok:=A4t (f:=fi) (f':=fo) b2;have hsh:∀ c i,i<g.ci.length+g.co.length->S.push (C4 typ g.ci x++C4 typ g.co r) c (wIx S.nl g.ci.length src c i)=fo c i:=λc i hi=>by
    rw [<- hfo];exact B5h hx c i hi
   have hres:((g.res.ren (rnm R)).sh (wIx S.nl g.ci.length src)).v (S.push (C4 typ g.ci x++C4 typ g.co r))=(g.res.v fo).ren (rnm R):=by
    rw [TV.v_sh hsh (Z4 b5),TV.A77]
   have hwo:=A2a (R:=R) hsh b6;have hkeys:B8 (Tb R (g.po.map λp=>(p.1,p.2.o fi)))=g.po.map (λp=>rnm R p.1):=by simp [B8,Tb]
   have hro:=A28 hf h2 hl2;have hnf:rF S.o (Z8 R (g.po.map λp=>(p.1,p.2.o fi)) (oOf fo g.ro))=rF' (Z8 R (g.po.map λp=>(p.1,p.2.o fi)) (oOf fo g.ro)):=by
    rw [Aq];exact A29 b3
   have hall:((g.args.map (TV.v fi))).all Q4=true:=by
    have:=hok;simp only [Z9,Bool.and_eq_true] at this;exact this.1.1.1.1.1.1
   have hnt:∀ n,(V.renL (rnm R) ((g.args.take n).map (TV.v fi))).all Q4=true:=λn=>A4u (by
    rw [List.map_take];exact List.all_eq_true.2 λv hv=>List.all_eq_true.1 hall v (List.mem_of_mem_take hv))
   rcases hc with ⟨rfl,rfl,rfl⟩ | ⟨t,cv,k,rfl,rfl,ht,hcv,rfl⟩
   ·have hdrop:g.args.drop xs.length=[]:=by
     cases hd:g.args.drop xs.length with
     | nil=>rfl
     | cons a b=>rw [hd] at h3;simp [ckA] at h3
    have htake:g.args.take xs.length=g.args:=by
     have:=List.take_append_drop xs.length g.args;rw [hdrop,List.append_nil] at this;exact this
    rw [htake] at t2;have hnt':=hnt xs.length;rw [htake] at hnt';cases d with
    | some k =>
     exact⟨_,OpJ.callFn hB (Sb b1) hac R hok (hN k rfl) hnt' t2,k2,hro,hnf,by simp only [U3,wtD,eOf,List.map,hres],hwo,by rw [List.append_nil];exact k3,hkeys,Aq⟩
    | none =>
     exact⟨_,OpJ.callFn0 hB (Sb b1) hac R hok hnt' t2,k2,hro,hnf,rfl,hwo,by rw [List.append_nil];exact k3,hkeys,Aq⟩
   ·have hta:g.args.take xs.length++g.args.drop xs.length=g.args:=List.take_append_drop ..;have hac':=hac;have hok':=hok;rw [<- hta,List.map_append] at hac' hok';have hcap:(V.renL (rnm R) ((g.args.drop xs.length).map (TV.v fi))).all (λv => !v.isAgg)=true:=by
     rw [<- t3];exact Vk b4
    refine⟨_,OpJ.callVal (t:=t) (caps:=(g.args.drop xs.length).map (TV.v fi)) hB (Sb b1) R hac' hok' (hN k rfl) (hnt xs.length) hcap t2,?_,hro,hnf,by simp only [U3,wtD,eOf,List.map,hres],hwo,?_,hkeys,Aq⟩
    ·refine E4 k2 ?_;have:(TV.func g.fid cv).v S.lv = .func g.fid (V.renL (rnm R) ((g.args.drop xs.length).map (TV.v fi))):=by
      show V.func g.fid (cv.vs S.lv)=_;rw [hcv,t3]
     simp only [rE,rE',K8,ht,Option.map_some,this]
    ·simp only [U3];rw [D6,k3];rfl
 ·cases h
theorem Yy [Hid] {f:Val}:∀ {x:TV},x.wf=true->x.isL=true->x.vs f=x.toL.map (TV.v f)
 | .nil,_,_=>rfl
 | .cons a b,h,_=>by
  simp only [TV.wf,Bool.and_eq_true] at h;have:=Yy (f:=f) (x:=b) h.2 h.1.2;simp only [TV.vs,TV.toL,List.map_cons,this];rfl
 | .junk,_,h | .undef,_,h | .d _ _,_,h | .kb _,_,h | .ki _ _,_,h | .ks _,_,h | .nils,_,h | .cst _,_,h | .ptr _ _ _,_,h | .eptr ..,_,h | .aptr ..,_,h | .dptr _ _,_,h | .sref _ _ _,_,h | .qref _ _,_,h | .qptr _ _ _,_,h | .tref ..,_,h | .func _ _,_,h | .st _,_,h | .tup _,_,h | .opt _ _ _,_,h | .mref _,_,h=>by simp [TV.isL] at h
theorem A4v [Hid] (hB:B.ok) (hg:COk P g) (hN:∀ k,d=some k->k<B.N) (h:Jb P S d g xs [] []=some s) :
  s.Ok P B opl ⟨d,.call { callee:=.value (.func g.fid),args:=xs.toArray,argTypes:=ts },ty,pos,af,none⟩ S:=by
 unfold Jb at h;split at h
 ·rename_i ys hys;exact Lz hB hg hN hys h (.inl ⟨rfl,rfl,rfl⟩)
 ·cases h
theorem Yz [Hid] (hB:B.ok) (hg:COk P g) {k t:Nat} (hN:k<B.N) {cv:TV} (ht:A1 S.E t=some (.func g.fid cv)) (hw:cv.wf=true) (hL:cv.isL=true) (h:Jb P S (some k) g xs cv.toL [t]=some s) :
  s.Ok P B opl ⟨some k,.call { callee:=.value (.tmp t),args:=xs.toArray,argTypes:=ts },ty,pos,af,none⟩ S:=by
 unfold Jb at h;split at h
 ·rename_i ys hys;exact Lz hB hg (λq hq=>by cases hq;exact hN) hys h (.inr ⟨t,cv,k,rfl,rfl,ht,Yy hw hL,rfl⟩)
 ·cases h
end
end Go.Vc
namespace Go.Vc
open Go
variable {P:Program} {B:D5} {ops:Array Oper}
section
variable {ob:Obs} {σ:Nat->Option Nat} {Z:Nat->Prop} {w:World}
theorem Ho (n:Nat):K4 ob (B9 ob n none) σ σ Z Z w w:=⟨Ext.refl _ _,λm h=>S4 h,λm _ h=>by
 rw [C1] at h
 by_cases e:m=n
 ·rw [if_pos e] at h;simp at h
 ·rw [if_neg e] at h;exact⟨h,rfl⟩,λ_ _ _ _ _=>rfl⟩
theorem Ob.vrow_cells {n e sz b:Nat} {fs:List V} (h:(Ob.vrow e sz fs).rep ob σ Z w n) (hb:σ n=some b) :
  ∃ cur cap xs,w.heap[b]? = some (.cells cur e (0,0))∧cur.size=cap*sz∧fs.length<=cap∧cap<=9223372036854775807∧V.repS ob σ Z w fs xs∧xs.length=fs.length*sz∧cur.toList.take (fs.length*sz)=xs∧∀ u∈xs,u.oneCell'=true:=by
 obtain⟨h0,h00,v,xs,h1,h1',h2,h3,h4⟩:=h;obtain⟨g1,g2⟩:=h1;rcases g2 with ⟨g2,_⟩ | ⟨g,cap,cur,k1,_,k3,k4,k5,k6,k7⟩
 ·rw [g2] at h3;rw [hb] at h3;simp [Value.ownBlock] at h3
 ·have:g=b:=by rw [k1,hb] at h3;simpa [Value.ownBlock] using h3
  subst this;exact⟨cur,cap,xs,k3,k6,k4,by simpa [maxLen] using k5,h2,g1,k7,h1'⟩
theorem Df {nm e sz:Nat} {v:Value} {fs:List V} (h:D0 ob σ Z w v (.sref nm sz 0 fs.length)) (hl:live ob nm) (ho:(Ob.vrow e sz fs).rep ob σ Z w nm) :
  ∃ xs,w.ownsRow 0 e sz v fs.length xs∧V.repS ob σ Z w fs xs∧(∀ u∈xs,u.oneCell'=true)∧v.ownBlock=σ nm:=by
 obtain⟨a,c,hv,h1,h2,h3⟩:=O9 h hl;obtain⟨h0,h00,v',xs,g1,g1',g2,g3,g4⟩:=ho;rcases h3 with ⟨k1,k2,_,k4⟩ | ⟨b,e',k1,k2,k3,k4⟩
 ·have:=g4 k1;subst this;cases g2;refine⟨[],?_,rfl,λ_ h=>(by cases h),by rw [hv,k2,k1];rfl⟩;rw [hv,k2,k4];exact World.ownsRow_nil w 0 e sz
 ·have k4':=k4 rfl;obtain⟨cur,cap,xs',m1,m2,m3,m4,m5,m6,m7,m8⟩:=Ob.vrow_cells (ob:=ob) (σ:=σ) (Z:=Z) (w:=w) (n:=nm) (e:=e) (sz:=sz) (fs:=fs) ⟨h0,h00,v',xs,g1,g1',g2,g3,g4⟩ k1;have hc:cap=c:=by
   simp [World.shape?,m1] at k3;have:=k3.2;rw [m2] at this;exact Nat.eq_of_mul_eq_mul_right h0 this
  subst hc;refine⟨xs',⟨m6,.inr ⟨b,cap,cur,by rw [hv,k4'],Nat.zero_le _,m1,m3,by simpa [maxLen] using m4,m2,m7⟩⟩,m5,m8,by rw [hv,k4',k1];rfl⟩
theorem E9 {sz:Nat}:∀ {fs:List V},(∀ x∈fs,x.sz=sz)->V.szL fs=fs.length*sz
 | [],_=>by simp [V.szL]
 | x :: fs,h=>by
  have:=E9 (fs:=fs) λy hy=>h y (List.mem_cons_of_mem _ hy);simp only [V.szL,h x (List.mem_cons_self ..),this,List.length_cons,Nat.succ_mul];omega
theorem Jy:∀ {xs ys:List V} {c1 c2:List Value},V.repS ob σ Z w xs c1->V.repS ob σ Z w ys c2->V.repS ob σ Z w (xs++ys) (c1++c2)
 | [],_,_,_,h,k=>by cases h;simpa using k
 | x :: xs,ys,_,c2,h,k=>by
  obtain⟨a,b,rfl,h2,h3,h4,h5⟩:=h;exact⟨a,b++c2,by simp,h2,h3,h4,Jy h5 k⟩
end
theorem V.repS_len {ob:Obs} {σ:Nat->Option Nat} {Z:Nat->Prop} {w:World}:∀ {fs:List V} {cs:List Value},V.repS ob σ Z w fs cs->cs.length=V.szL fs
 | [],_,h=>by cases h;rfl
 | f :: fs,_,h=>by
  obtain⟨c1,c2,rfl,h1,_,_,h2⟩:=h;rw [List.length_append,h1,V.repS_len h2];rfl
section
variable {d:Nat} {x y i:Operand} {ty:TypeId} {pos:String} {af:Array Edge} {nt nt':List (Nat×V)}
variable {ag:Bool} {fs:List V} {n nm off:Nat} {t:TypeId}
theorem OpJ.loadV (ht:TyS P t n ag) {q:List Nat} {e sz:Nat} {v:V} (hat:At (.st fs) q off v) (hag:v.isAgg=ag) (hsz:v.sz=n) (hnt:v.isTop=false) (hN:d<B.N) (hx:Opd x (.ptr nm off q) nt) :
  OpJ P B ops ⟨some d,.load t x,ty,pos,af,none⟩ { nt,no:=[(nm,.vrow e sz fs)],wt:=[(d,v)] } :=
 OpJ.run rfl rfl hN rfl λenv ob a w σ Z sm hne=>by
  have hob:=hne.2.1 (nm,.vrow e sz fs) (by simp);have hl:live ob nm:=⟨_,hob⟩;obtain⟨b,hb,hv⟩:=L5 (hx B env ob a w σ Z sm hne.1) hl;have hro:=sm.obj nm _ hob;obtain⟨cur,cap,xs,hw,hcs,_,_,hr,hxl,htake,hone⟩:=Ob.vrow_cells hro hb;obtain⟨c1,c2,c3,g1,g2,g3,g4⟩:=hat.cells (ob:=ob) (σ:=σ) (Z:=Z) (w:=w) (cs:=xs) hr (by rw [hxl];exact(E9 hro.2.1).symm);have hc:G6 w b off c2:=λj u hj=>by
   have hlt:j<c2.length:=(List.getElem?_eq_some_iff.1 hj).1;rw [cell_of_row w b (off+j) cur e (0,0) hw];have hx:xs[off+j]? = some u:=by
    rw [g1,List.append_assoc,List.getElem?_append_right (by omega),show off+j-c1.length=j from by omega,List.getElem?_append_left hlt];exact hj
   rw [<- htake,List.getElem?_take] at hx;split at hx
   ·simpa using hx
   ·cases hx
  have h1:ag=false->n=1:=λh=>by subst hag;subst hsz;exact V.sz_one h
  refine⟨D3 ag c2,w,σ,Z,?_,by rw [C9 _ rfl];exact sm,?_⟩
  ·simp only [execOp,hv,Instr.loadAt,Instr.sureAddr,Sem.run_bind,Sem.run_pure,Result.andThen_ok,K7 ht hc (g3.trans hsz) h1]
  ·rw [C9 _ rfl];exact D0.of (F3.of_cells g4 g3 (λu hu=>hone u (by rw [g1];simp [hu])) ag hag) hnt
theorem OpJ.storeV (ht:TyS P t n ag) {q:List Nat} {e sz:Nat} {fs':List V} {v:V} (hset:L6 (.st fs) q off v (.st fs')) (hlen:fs'.length=fs.length) (hszs:∀ x∈fs',x.sz=sz) (hsz:v.sz=n) (hj:v ≠ .junk) (hnt:v.isTop=false) (hx:Opd x (.ptr nm off q) nt) (hy:Opd y v nt') :
  OpJ P B ops ⟨none,.store t x y,ty,pos,af,none⟩ { nt:=nt++nt',no:=[(nm,.vrow e sz fs)],wo:=[(nm,some (.vrow e sz fs'))] } :=
 OpJ.run0 rfl rfl rfl λenv ob a w σ Z sm hne=>by
  obtain⟨h1,h2⟩:=B4 hne.1;have hob:=hne.2.1 (nm,.vrow e sz fs) (by simp);have hl:live ob nm:=⟨_,hob⟩;obtain⟨b,hb,hv⟩:=L5 (hx B env ob a w σ Z sm h1) hl;have hro:=sm.obj nm _ hob;obtain⟨cur,cap,xs,hw,hcs,hle,hcap,hr,hxl,htake,hone⟩:=Ob.vrow_cells hro hb;obtain⟨gr,gl,g1⟩:=(D0.to (hy B env ob a w σ Z sm h2) hnt).full hj;have hl1:xs.length=(V.st fs).sz:=by rw [hxl];exact(E9 hro.2.1).symm
  have hl2:(V.st fs').sz=(V.st fs).sz:=by
   show V.szL fs'=V.szL fs;rw [E9 hszs,E9 hro.2.1,hlen]
  have hcells:=hset.cells (ob:=ob) (σ:=σ) (Z:=Z) (w:=w) (cs:=xs) hr hl1 gr (by simpa using gl) g1 hl2 hone;have hnl:(a.eval y).cells.toList.length=n:=by rw [<- hsz];simpa using gl
  have hxs:xs.length<=cur.size:=by rw [hxl,hcs];exact Nat.mul_le_mul_right _ hle
  have hfit:off+n<=xs.length:=by have:=hcells.2;rw [hnl] at this;exact this
  have hrun:=X4 ht hw (v:=a.eval y) (by simpa using hnl) (by omega) g1 (o:=off);refine⟨w.setRow b (cur.toList.take off++(a.eval y).cells.toList++cur.toList.drop (off+n)).toArray,σ,Z,.inl ?_,?_⟩
  ·simp only [execOp,hv,Instr.storeAt,Instr.sureAddr,Sem.run_bind,Sem.run_pure,Result.andThen_ok,hrun]
  ·rw [F1 _ rfl];have hcl:cur.toList.length=cur.size:=Array.length_toList;have hln:(cur.toList.take off++(a.eval y).cells.toList++cur.toList.drop (off+n)).length=cur.size:=by
    simp only [List.length_append,List.length_take,List.length_drop,hnl,hcl];omega
   refine sm.setObj hob hb hw (by simpa using hln) λob' m => ?_;have hcur:cur.toList=xs++cur.toList.drop xs.length:=by
    have:=List.take_append_drop (fs.length*sz) cur.toList;rw [htake,<- hxl] at this;exact this.symm
   have hnew:V.repS ob σ Z w fs' (xs.take off++(a.eval y).cells.toList++xs.drop (off+n)):=by
    have:=hcells.1;rw [hnl] at this;exact this
   refine⟨hro.1,hszs,.slice (some ⟨b,0,none⟩) fs'.length cap,xs.take off++(a.eval y).cells.toList++xs.drop (off+n),⟨?_,.inr ⟨b,cap,_,rfl,Nat.zero_le _,setRow_heap w b cur _ e (0,0) hw,by omega,by simpa [maxLen] using hcap,?_,?_⟩⟩,λu hu => ?_,V.repS_move m fs' _ hnew,?_,?_⟩
   ·rw [hlen,<- hxl];simp only [List.length_append,List.length_take,List.length_drop,hnl];omega
   ·rw [<- hcs];simpa using hln
   ·rw [hlen,<- hxl];show(cur.toList.take off++(a.eval y).cells.toList++cur.toList.drop (off+n)).take xs.length=_;generalize cur.toList.drop xs.length=r at hcur;have hql:(xs.take off++(a.eval y).cells.toList++xs.drop (off+n)).length=xs.length:=by
     simp only [List.length_append,List.length_take,List.length_drop,hnl];omega
    have e2:cur.toList.take off++(a.eval y).cells.toList++cur.toList.drop (off+n)=(xs.take off++(a.eval y).cells.toList++xs.drop (off+n))++r:=by
     rw [hcur,List.take_append_of_le_length (by omega),List.drop_append_of_le_length (by omega)];simp
    rw [e2,List.take_append_of_le_length (by rw [hql];exact Nat.le_refl _),List.take_of_length_le (by rw [hql];exact Nat.le_refl _)]
   ·simp only [List.mem_append] at hu;rcases hu with (hu | hu) | hu
    ·exact hone u (List.mem_of_mem_take hu)
    ·exact g1 u hu
    ·exact hone u (List.mem_of_mem_drop hu)
   ·rw [hb];rfl
   ·intro hn;rw [hb] at hn;cases hn
theorem OpJ.appendV {t e sz bytes:Nat} (hB:B.ok) (hu:P.underlying t=some (.slice e)) (he:TyE P e sz bytes) {n m nm:Nat} (hnm:1000<=nm) (hmn:m≠n) {fs fs2 gs fs':List V} {len l0 l1:Nat} (htw:TwL Tc fs fs2) (hfs:fs'=fs2++gs) (hlen:len=fs'.length) (hg0:gs≠[])
  (hb:fs'.length*bytes<=140737488355328) (hb63:fs'.length<=9223372036854775807) (hN:d<B.N) (hl0:l0=fs.length) (hl1:l1=gs.length) (hx:Opd x (.sref n sz 0 l0) nt) (hy:Opd y (.sref m sz 0 l1) nt') :
  OpJ P B ops ⟨some d,.call { callee:=.builtin .append,args:=#[x,y],argTypes:=#[t,t] },ty,pos,af,none⟩
   { nt:=nt++nt',no:=[(n,.vrow e sz fs),(m,.vrow e sz gs)],nf:=[nm],wt:=[(d,.sref nm sz 0 len)],wo:=[(nm,some (.vrow e sz fs')),(m,none),(n,none)] } :=
 OpJ.run rfl rfl hN rfl λenv ob a w σ Z sm hne=>by
  subst hl0 hl1;obtain⟨h1,h2⟩:=B4 hne.1;have hob:=hne.2.1 (n,.vrow e sz fs) (by simp);have hom:=hne.2.1 (m,.vrow e sz gs) (by simp);have hl:live ob n:=⟨_,hob⟩;have hlm:live ob m:=⟨_,hom⟩;have hfr:ob nm=none:=hne.2.2 nm (by simp);have hnn:nm≠n:=λh=>by subst h;exact hl.used hfr
  have hnm':nm≠m:=λh=>by subst h;exact hlm.used hfr
  have hro:=sm.obj n _ hob;have hrm:=sm.obj m _ hom;obtain⟨xs,hown,hrep,hone,hblk⟩:=Df (hx B env ob a w σ Z sm h1) hl hro;obtain⟨zs,hown2,hrep2,hone2,hblk2⟩:=Df (hy B env ob a w σ Z sm h2) hlm hrm;obtain⟨ti,z,hi,hz,hs,hby,hzs⟩:=he.get;have hlen':fs'.length=fs.length+gs.length:=by rw [hfs,List.length_append,htw.len]
  have hrepc:V.repS ob σ Z w fs2 xs:=(Tw.st htw).rep A0a (K4.refl _ _ _ _) hrep;obtain⟨bm,cm,curm,k1,k3,k4,k5,k6,k7⟩:∃ bm cm curm,a.eval y = .slice (some ⟨bm,0,none⟩) gs.length cm∧w.heap[bm]? = some (.cells curm e (0,0))∧gs.length<=cm∧cm<=maxLen∧curm.size=cm*sz∧curm.toList.take (gs.length*sz)=zs:=by
   rcases hown2.2 with ⟨_,g⟩ | ⟨g,cap,cur,k1,_,k3,k4,k5,k6,k7⟩
   ·exact absurd (List.eq_nil_of_length_eq_zero g) hg0
   ·exact⟨g,cap,cur,k1,k3,k4,k5,k6,k7⟩
  have hcells:∀ q u,zs[q]? = some u->w.cell? ((⟨bm,0,none⟩:Addr).add q)=some u:=λq u hq=>by
   rw [K6,Nat.zero_add,cell_of_row w bm q curm e (0,0) k3];rw [<- k7,List.getElem?_take] at hq;split at hq
   ·simpa using hq
   ·cases hq
  obtain⟨v',w',r1,r2,r3,_,r5⟩:=run_append_own_at (P:=P) w 0 t ty e ti z sz bytes hu hi hz hs hby hzs he.pos (a.eval x) fs.length xs hown ⟨bm,0,none⟩ gs.length cm zs hown2.1
   hcells hone2 (by simp only [maxLen];omega) (by rw [<- hlen'];exact hb) (Nat.zero_le _)
  have hlv:∀ q,live (B9 (B9 ob n none) m none) q->q≠n∧q≠m∧live ob q:=λq hq=>by
   rw [C1] at hq
   by_cases e:q=m
   ·rw [if_pos e] at hq;simp at hq
   ·rw [if_neg e,C1] at hq
    by_cases e':q=n
    ·rw [if_pos e'] at hq;simp at hq
    ·rw [if_neg e'] at hq;exact⟨e',e,hq⟩
  have s2:=((sm.kill n).kill m).rowNew sm (λq=>by
    by_cases e:q=m
    ·right;simp [B9,e]
    ·by_cases e':q=n
     ·right;simp [B9,e,e']
     ·left;simp [B9,e,e']) hB (nm:=nm) (by simp [B9,hnn,hnm',hfr]) hnm r3
   (λp b' hp hpb e=>(hlv p hp).1 (sm.inj p n b' (hlv p hp).2.2 hl hpb (by rw [<- hblk,<- e])))
   (λb' hb'=>⟨n,hl,by rw [<- hblk,hb']⟩) r5
   (o:=.vrow e sz fs') λob' σ' mv hσ=>by
    have mv':=V.repS_move mv _ _ (V.repS_move (Ho m) _ _ (V.repS_move (Ho n) _ _ (Jy hrepc hrep2)));refine⟨he.pos,?_,v',xs++zs,by rw [hlen'];exact r2,λu hu => ?_,by rw [hfs];exact mv',hσ.symm,λhn => ?_⟩
    ·intro q hq;rw [hfs] at hq;rcases List.mem_append.1 hq with hq | hq
     ·exact htw.szs (A0a (ob:=ob) (σ:=σ) (Z:=Z) (w:=w)) hro.2.1 q hq
     ·exact hrm.2.1 q hq
    ·rcases List.mem_append.1 hu with hu | hu
     ·exact hone u hu
     ·exact hone2 u hu
    ·rw [hσ] at hn;rcases r2.2 with ⟨_,h0⟩ | ⟨g,cap,cur,hv,_⟩
     ·exact List.eq_nil_of_length_eq_zero (by omega)
     ·rw [hv] at hn;simp [Value.ownBlock] at hn
  have eo:Eff.obs { nt:=nt++nt',no:=[(n,.vrow e sz fs),(m,.vrow e sz gs)],nf:=[nm],wt:=[(d,.sref nm sz 0 len)],wo:=[(nm,some (.vrow e sz fs')),(m,none),(n,none)] } ob=B9 (B9 (B9 ob n none) m none) nm (some (.vrow e sz fs')):=by
   funext k;unfold Eff.obs B9;rw [A4,A4,A4]
   by_cases q1:nm=k
   ·subst q1;simp
   ·by_cases q2:m=k
    ·subst q2;simp [q1,Ne.symm q1]
    ·by_cases q3:n=k
     ·subst q3;simp [q1,q2,Ne.symm q1,Ne.symm q2]
     ·simp [q1,q2,q3,Ne.symm q1,Ne.symm q2,Ne.symm q3,A1]
  rw [eo];refine⟨v',w',_,Z,?_,s2,?_⟩
  ·simp only [execOp,resolve,invoke,builtin,Sem.run_bind,Sem.run_pure,Result.andThen_ok,List.map_toArray,List.map_cons,List.map_nil];rw [k1,r1];rfl
  ·rw [hlen,hlen'];exact J6 (e:=e) (xs:=xs++zs) (by rw [C1];simp) r2 (by simp [G3])
theorem OpJ.appendNV {t e sz bytes:Nat} (hB:B.ok) (hu:P.underlying t=some (.slice e)) (he:TyE P e sz bytes) {m nm:Nat} (hnm:1000<=nm) {gs:List V} {len l1:Nat} (hlen:len=gs.length) (hg0:gs≠[])
  (hb:gs.length*bytes<=140737488355328) (hb63:gs.length<=9223372036854775807) (hN:d<B.N) (hl1:l1=gs.length) (hx:Opd x .nils nt) (hy:Opd y (.sref m sz 0 l1) nt') :
  OpJ P B ops ⟨some d,.call { callee:=.builtin .append,args:=#[x,y],argTypes:=#[t,t] },ty,pos,af,none⟩
   { nt:=nt++nt',no:=[(m,.vrow e sz gs)],nf:=[nm],wt:=[(d,.sref nm sz 0 len)],wo:=[(nm,some (.vrow e sz gs)),(m,none)] } :=
 OpJ.run rfl rfl hN rfl λenv ob a w σ Z sm hne=>by
  subst hl1;obtain⟨h1,h2⟩:=B4 hne.1;have hom:=hne.2.1 (m,.vrow e sz gs) (by simp);have hlm:live ob m:=⟨_,hom⟩;have hfr:ob nm=none:=hne.2.2 nm (by simp);have hnm':nm≠m:=λh=>by subst h;exact hlm.used hfr
  have hrm:=sm.obj m _ hom;have hxv:=T9 (hx B env ob a w σ Z sm h1);obtain⟨zs,hown2,hrep2,hone2,hblk2⟩:=Df (hy B env ob a w σ Z sm h2) hlm hrm;obtain⟨ti,z,hi,hz,hs,hby,hzs⟩:=he.get;obtain⟨bm,cm,curm,k1,k3,k4,k5,k6,k7⟩:∃ bm cm curm,a.eval y = .slice (some ⟨bm,0,none⟩) gs.length cm∧w.heap[bm]? = some (.cells curm e (0,0))∧gs.length<=cm∧cm<=maxLen∧curm.size=cm*sz∧curm.toList.take (gs.length*sz)=zs:=by
   rcases hown2.2 with ⟨_,g⟩ | ⟨g,cap,cur,k1,_,k3,k4,k5,k6,k7⟩
   ·exact absurd (List.eq_nil_of_length_eq_zero g) hg0
   ·exact⟨g,cap,cur,k1,k3,k4,k5,k6,k7⟩
  have hcells:∀ q u,zs[q]? = some u->w.cell? ((⟨bm,0,none⟩:Addr).add q)=some u:=λq u hq=>by
   rw [K6,Nat.zero_add,cell_of_row w bm q curm e (0,0) k3];rw [<- k7,List.getElem?_take] at hq;split at hq
   ·simpa using hq
   ·cases hq
  obtain⟨v',w',r1,r2,r3,_,r5⟩:=run_append_own_at (P:=P) w 0 t ty e ti z sz bytes hu hi hz hs hby hzs he.pos (.slice none 0 0) 0 [] (World.ownsRow_nil w 0 e sz) ⟨bm,0,none⟩ gs.length cm zs hown2.1
   hcells hone2 (by simp only [maxLen];omega) (by rw [Nat.zero_add];exact hb) (Nat.zero_le _)
  rw [Nat.zero_add,List.nil_append] at r2;have hlv:∀ q,live (B9 ob m none) q->q≠m∧live ob q:=λq hq=>by
   rw [C1] at hq
   by_cases e:q=m
   ·rw [if_pos e] at hq;simp at hq
   ·rw [if_neg e] at hq;exact⟨e,hq⟩
  have s2:=(sm.kill m).rowNew sm (Fx ob m) hB (nm:=nm) (by simp [B9,hnm',hfr]) hnm r3
   (λp b' hp hpb e=>by simp [Value.ownBlock] at e)
   (λb' hb'=>by simp [Value.ownBlock] at hb') r5
   (o:=.vrow e sz gs) λob' σ' mv hσ=>by
    have mv':=V.repS_move mv _ _ (V.repS_move (Ho m) _ _ hrep2);refine⟨he.pos,hrm.2.1,v',zs,r2,hone2,mv',hσ.symm,λhn => ?_⟩;rw [hσ] at hn;rcases r2.2 with ⟨_,h0⟩ | ⟨g,cap,cur,hv,_⟩
    ·exact List.eq_nil_of_length_eq_zero (by omega)
    ·rw [hv] at hn;simp [Value.ownBlock] at hn
  rw [Cr _ rfl];refine⟨v',w',_,Z,?_,s2,?_⟩
  ·simp only [execOp,resolve,invoke,builtin,Sem.run_bind,Sem.run_pure,Result.andThen_ok,List.map_toArray,List.map_cons,List.map_nil];rw [k1,hxv,r1];rfl
  ·rw [hlen];exact J6 (e:=e) (xs:=zs) (by rw [C1];simp) r2 (by simp [G3])
theorem OpJ.buildSliceV {t e:TypeId} {sz:Nat} {ag:Bool} {z:D} (hu:P.underlying t=some (.slice e)) (ht:TyS P e sz ag) (hz:TyZ P e (.d z)) (hzs:z.sz=sz) (h0:0<sz) {n:Nat} (hn24:n*sz<=16777216) (hB:B.ok) {nm:Nat} (hnm:1000<=nm) {len:Nat} (hlen2:len=n)
  {parts:List (Nat×Operand)} {vs:List (Nat×V)} {nt:List (Nat×V)} (hx:Ki parts vs nt) (hok:R2 ((List.range n).map λi=>(i*sz,sz)) (List.replicate n (.d z)) vs=true)
  {es:List V} (hes:es=Q3 (List.replicate n (.d z)) vs) (hel:es.length=n) (hsz:∀ x∈es,x.sz=sz) (hpn:∀ p∈parts,p.1<n) (hN:d<B.N) :
  OpJ P B ops ⟨some d,.buildSlice t n parts.toArray,ty,pos,af,none⟩ { nt,nf:=[nm],wt:=[(d,.sref nm sz 0 len)],wo:=[(nm,some (.vrow e sz es))] } :=
 OpJ.run rfl rfl hN rfl λenv ob a w σ Z sm hne=>by
  have hzp:z.plain=true:=hz.plain;have hrep:=D.rep_enc (Z:=Z) (w:=w) z hzp;have hzl:=D.rep_len z _ hrep;have hcells:(D3 (V.d z).isAgg (V.d z).enc).cells=z.enc.toArray:=by
   have:=hz.cells;rw [<- Array.toArray_toList (xs:=(D3 (V.d z).isAgg (V.d z).enc).cells),this];rfl
  have hzr:=H4 (Z:=Z) (w:=w) hzp n;have hV:V.repS ob σ Z w (List.replicate n (.d z)) (List.replicate n z.enc).flatten:=by
   have:=V5 (ob:=ob) (σ:=σ) hzr;simpa using this
  have hone:∀ u∈(List.replicate n z.enc).flatten,u.oneCell'=true:=D.repL_one _ _ hzr;obtain⟨cells',k1,k2,k3⟩:=V6 sm hx hne.1 (cells:=(List.replicate n z.enc).flatten.toArray) hok (by simpa using hV) (by
   have:=D.repL_len _ _ hzr;rw [List.size_toArray,this];rw [<- N2];simp) (by simpa using hone)
  rw [<- hes] at k2;have hlen:cells'.size=n*sz:=by
   have:=V.repS_len k2;rw [E9 hsz,hel] at this;rw [<- Array.length_toList];exact this
  have hfr:ob nm=none:=hne.2.2 nm (by simp);have hown:(w.alloc (.cells cells' e)).ownsRow 0 e sz (.slice (some ⟨w.heap.size,0,none⟩) n n) es.length cells'.toList:=by
   refine⟨by rw [Array.length_toList,hlen,hel],.inr ⟨w.heap.size,n,_,by rw [hel],Nat.zero_le _,heap_alloc_new w _,by omega,?_,hlen,?_⟩⟩
   ·have:n<=n*sz:=Nat.le_mul_of_pos_right _ h0;simp only [maxLen];omega
   ·rw [hel,List.take_of_length_le (by rw [Array.length_toList,hlen];omega)]
  have s2:=sm.newObj hB hfr hnm (o:=.vrow e sz es) (c:=.cells cells' e) λob' σ' m hσ =>
   ⟨h0,hsz,_,_,hown,k3,V.repS_move m _ _ k2,by rw [hσ];rfl,λhn=>by rw [hσ] at hn;cases hn⟩
  rw [F1 _ rfl];refine⟨.slice (some ⟨w.heap.size,0,none⟩) n n,w.alloc (.cells cells' e),G3 σ nm (some w.heap.size),Z,?_,s2,?_⟩
  ·have hmap:(parts.toArray.map λp=>(p.1,a.eval p.2)).toList=parts.map λp=>(p.1,a.eval p.2):=by simp
   have hpl:∀ (l:List (Nat×Value)),(∀ p∈l,p.1<n)->∀ (c:Array Value),Instr.fill (λi=>some (i*sz,sz)) c l=Instr.fill (λi=>((List.range n).map λi=>(i*sz,sz))[i]?) c l:=by
    intro l;induction l with
    | nil=>intro _ c;rfl
    | cons p l ih =>
     intro hp c;obtain⟨k,v⟩:=p;have hk:k<n:=hp (k,v) (by simp);have hk2:((List.range n).map λi=>(i*sz,sz))[k]? = some (k*sz,sz):=by simp [List.getElem?_map,List.getElem?_range hk]
     simp only [Instr.fill,hk2];split
     ·rfl
     ·exact ih (λp hp'=>hp p (by simp [hp'])) _
   have h1:(parts.map λp=>(p.1,a.eval p.2)).all (λp=>decide (p.1<n))=true:=by
    rw [List.all_eq_true];intro q hq;obtain⟨p,hp,rfl⟩:=List.mem_map.1 hq;simpa using hpn p hp
   have hfill:=hpl (parts.map λp=>(p.1,a.eval p.2)) (λp hp=>by simpa using List.all_eq_true.1 h1 p hp) ((List.replicate n z.enc).flatten.toArray);rw [k1] at hfill;have hzero:((Array.range (n*sz)).map λi=>z.enc.toArray[i % z.enc.toArray.size]!)=(List.replicate n z.enc).flatten.toArray:=by
    have:=I6 z.enc (by omega) n;rw [<- this,hzl,hzs];apply Array.toList_inj.1;simp
   by_cases hnz:n*sz=0
   ·have hn0:n=0:=by rcases Nat.mul_eq_zero.1 hnz with h | h<;>omega
    subst hn0;have hnil:parts=[]:=by
     cases parts with
     | nil=>rfl
     | cons p _=>have:=hpn p (by simp);omega
    subst hnil;have hc':cells' = #[]:=by simpa [Instr.fill] using k1.symm
    have hr0:(Array.map (λ_=>(default:Value)) (Array.range 0)) = #[]:=by apply Array.toList_inj.1;simp
    simp [execOp,Instr.buildSlice,run_underlying hu,ht.run_size,hc',Instr.fill,P7,hr0]
   ·simp only [execOp,Instr.buildSlice,Sem.run_bind,run_underlying hu,Result.andThen_ok,ht.run_size,Sem.run_pure,hmap];rw [if_neg (show ¬ n*sz > 2 ^ 24 from by omega),if_neg hnz];simp only [Sem.run_bind,hz.run,Result.andThen_ok,Sem.run_pure,hcells,hzero,hfill,P7]
  ·have:=J6 (ob:=B9 ob nm (some (.vrow e sz es))) (σ:=G3 σ nm (some w.heap.size)) (Z:=Z) (nm:=nm) (by rw [C1];simp) hown (by simp [G3,Value.ownBlock]);rw [hlen2];simpa [hel] using this
end
theorem Sim.reO {env:Env} {ob:Obs} {a:Act} {w:World} {σ:Nat->Option Nat} {Z:Nat->Prop} (s:Sim B env ob a w σ Z) {n:Nat} {o o':Ob} (hn:ob n=some (some o)) (hr:∀ r,o' ≠ .reg r) (h:o.rep ob σ Z w n->o'.rep ob σ Z w n) :
  Sim B env (B9 ob n (some o')) a w σ Z:=by
 have hl:∀ m,live (B9 ob n (some o')) m->live ob m:=λm ⟨q,h⟩=>by
  by_cases hm:m=n
  ·subst hm;exact⟨_,hn⟩
  ·exact⟨q,by simpa [B9,hm] using h⟩
 have m:K4 ob (B9 ob n (some o')) σ σ Z Z w w:=⟨Ext.refl _ _,λm h=>by
   by_cases hm:m=n
   ·subst hm;simp [used,B9]
   ·simpa [used,B9,hm] using h,λm _ h=>⟨hl m h,rfl⟩,λ_ _ _ _ _=>rfl⟩
 refine { s with env:=?_,obj:=?_,inj:=λi j b hi hj=>s.inj i j b (hl i hi) (hl j hj),blk:=λi b hi=>s.blk i b (hl i hi),pin:=λi b hp hi=>s.pin i b hp (hl i hi),shp:=λi b hp hi=>s.shp i b hp (hl i hi),foot:=s.foot.same hl λr h=>hr r h }
 ·intro t x ht;obtain⟨v,h1,h2⟩:=s.env t x ht;exact⟨v,h1,h2.move m⟩
 ·intro i q hi
  by_cases hin:i=n
  ·subst hin;have ho:q=o':=by simpa [B9] using hi.symm
   subst ho;exact Ob.rep_move m (h (s.obj i _ hn)) rfl (λ_ _=>rfl)
  ·have ho:ob i=some (some q):=by simpa [B9,hin] using hi
   exact Ob.rep_move m (s.obj i q ho) rfl (λ_ _=>rfl)
theorem CoL.szs {sz:Nat}:∀ {fs:List V} {es:List D},CoL fs es->(∀ x∈fs,x.sz=sz)->∀ x∈es,x.sz=sz
 | _,_,.nil,_,x,hx=>by cases hx
 | _,_,.cons h k,hs,x,hx=>by
  rcases List.mem_cons.1 hx with e | hx
  ·subst e;exact h.sz.symm.trans (hs _ (List.mem_cons_self ..))
  ·exact k.szs (λy hy=>hs y (List.mem_cons_of_mem _ hy)) x hx
theorem CoL.len:∀ {fs:List V} {es:List D},CoL fs es->fs.length=es.length
 | _,_,.nil=>rfl
 | _,_,.cons _ h=>by simp [h.len]
theorem Mat.vrowD {E:EL} {O:OL} {n e sz:Nat} {fs:List V} {es:List D} (hn:A1 O n=some (some (.vrow e sz fs))) (hc:CoL fs es):Mat B E O E ((n,some (.row e sz es)) :: O):=λa w σ Z s=>by
 have s1:=s.reO (n:=n) hn (o':=.row e sz es) (λr h=>by cases h) λh=>by
  obtain⟨h0,h00,v,xs,k1,k2,k3,k4,k5⟩:=h;refine⟨h0,hc.szs h00,v,xs,by rw [<- hc.len];exact k1,hc.rep k3,k4,λhn => ?_⟩;exact List.eq_nil_of_length_eq_zero (by rw [<- hc.len,k5 hn];rfl)
 rw [<- V7] at s1;exact⟨_,_,s1⟩
theorem Mat.beginV {E Ts:EL} {O Bs:OL} {n e sz:Nat} (hB:B.ok) (hsz:0<sz) (hn:A1 O n=none) (h1000:1000<=n) (hT:TwT (A09 n sz) E Ts) (hBs:TwB (A09 n sz) ((n,some (.vrow e sz [])) :: O) Bs) :
  Mat B E O (Ts++E) (Bs++(n,some (.vrow e sz [])) :: O):=λa w σ Z s=>by
 have s2:=s.rowNew0 hB (nm:=n) hn h1000 (g':=none) (World.grownBy.refl w _) (.inl rfl)
  (o:=.vrow e sz []) λob' σ' m hσ=>⟨hsz,(λ_ h=>by cases h),.slice none 0 0,[],World.ownsRow_nil w 0 e sz,(λ_ h=>by cases h),rfl,hσ.symm,λ_=>rfl⟩
 rw [<- V7] at s2;refine⟨_,_,s2.turn s2 (K4.refl _ _ _ _) ⟨?_,?_⟩ (λq o h _=>⟨h,rfl⟩) hT hBs⟩
 ·rintro x y ⟨rfl,rfl⟩;exact⟨rfl,rfl,by simp,rfl,rfl⟩
 ·rintro x y ⟨rfl,rfl⟩ cs hr;have hc:cs=[.slice none 0 0]:=hr;subst hc;refine⟨by unfold used;rw [A4];simp,λ_=>⟨none,0,rfl,Nat.le_refl _,by omega,.inl ⟨by simp [G3],rfl,rfl,rfl⟩⟩⟩
end Go.Vc
namespace Go.Vc
open Go
section
variable {A:Alg}
def TV.allCode:TV->Bool
 | .nil=>true
 | .cons a b=>(Dp a).isSome&&b.allCode
 | _=>false
def TV.posN:TV->Option Nat
 | .cons .nils b=>bif b.allCode then some 0 else none
 | .cons a b=>bif (Dp a).isSome then b.posN.map (· + 1) else none
 | _=>none
def Tq (S:St A) (c:Ty) (k:IntKind) (j i:Nat):A.I .bool:=A.sameLen c (A.cutD c k (S.lv (.list c) j) (S.lv (.int k) i)) (A.lit c [A.zero c])
def Nr (P:Program) (S:St A) (d:Nat) (t:TypeId) (x y:Operand):Option (Stp A) :=
 match P.underlying t,S.op x with
 | some (.slice e),some (.sref n c j)=>match A1 S.O n with
  | some (some (.vrow _ c' i _ _)) =>
   if h:c'=c then bif tyB P e c.sz c.agg then match S.ix y with
    | some ⟨k,a,ia,lf⟩ =>
     let m:=A.idx c k (S.lv (.list c) i) a
     some (.bind c (bif Nat.beq i j then m else A.chk c (A.sameLen c (S.lv (.list c) i) (S.lv (.list c) j)) m) (λ_=>lf) { nt:=rdk x++rdk y,no:=[n],wt:=[(d,.eptr n c.sz k ia 0 [])] })
    | none=>none
   else none else none
  | _=>none
 | _,_=>none
def Jc (c b:Ty) (sz pos off:Nat) (p:List Nat):Bool :=
 decide (c = .st b)&&Nat.beq sz c.sz&&c.dat false&&Nat.blt pos b.nf&&Nat.beq (b.foff pos) off&&(match p with | [q]=>Nat.beq q pos | _=>false)
def Tr (P:Program) (S:St A) (d:Nat) (t:TypeId) (x:Operand):Option (Stp A) :=
 match S.op x with
 | some (.eptr n sz k i off p)=>match A1 S.O n with
  | some (some (.vrow _ (.st b) j pos y))=>match y.sz? with
   | some m=>bif Jc (.st b) b sz pos off p&&Nat.beq m (b.fty pos).sz&&tyB P t m y.agg && !y.isL then
    some (.chk (Tq S (.st b) k j i) [] { nt:=rdk x,no:=[n],wt:=[(d,y)] }) else none
   | none=>none
  | _=>none
 | _=>none
def Ns (P:Program) (S:St A) (t:TypeId) (x y:Operand):Option (Stp A) :=
 match S.op x,S.op y with
 | some (.eptr n sz k i off p),some ty=>match A1 S.O n with
  | some (some (.vrow e (.st b) j pos z))=>match z.sz?,ty.sz? with
   | some m',some m=>bif Jc (.st b) b sz pos off p&&Nat.beq m (b.fty pos).sz&&Nat.beq m' m&&tyB P t m ty.agg && !ty.isL && !z.isL then
    some (.chk (Tq S (.st b) k j i) [] { nt:=rdk x++rdk y,no:=[n],wo:=[(n,some (.vrow e (.st b) j pos ty))] }) else none
   | _,_=>none
  | _=>none
 | _,_=>none
def A10 (P:Program) (S:St A) (d:Nat) (t:TypeId) (x y:Operand):Option (Stp A) :=
 match P.underlying t,S.op x,S.op y with
 | some (.slice e),some (.sref n c j),some (.sref m c' j')=>match A1 S.O n,A1 S.O m with
  | some (some (.vrow e1 (.st b) i pos x1)),some (some (.vrow e2 c2 i2 pos2 x2))=>match S.asD x1 (b.fty pos) with
   | some z=>bif Nat.beq e1 e&&Nat.beq e2 e&&decide (c = .st b)&&decide (c' = .st b)&&decide (c2 = .st b)&&Nat.beq i j&&Nat.beq i2 j'&&Nat.beq pos pos2 && !Nat.beq m n&&Bl P e (Ty.st b).sz (bytesOf P e)&&Nat.ble (bytesOf P e) 32768&&Nat.ble 1000 S.nx&&(Ty.st b).dat false&&Nat.blt pos b.nf then
     let l:=A.app (.st b) (A.lastF b (S.lv (.list (.st b)) i) pos z) (S.lv (.list (.st b)) i2)
     some (.chk (A.and (A.cmp .lss .i64 (A.ki .i64 0) (A.len (.st b) (S.lv (.list (.st b)) i2))) (A.fitL (.st b) l)) [⟨.list (.st b),l⟩] { nt:=rdk x++rdk y,no:=[n,m],nf:=[S.nx],wt:=[(d,.sref S.nx (.st b) S.nl)],wo:=[(S.nx,some (.vrow e (.st b) S.nl pos x2)),(m,none),(n,none)] })
    else none
   | none=>none
  | _,_=>none
 | some (.slice e),some .nils,some (.sref m c' j')=>match A1 S.O m with
  | some (some (.vrow e2 c2 i2 pos2 x2))=>bif Nat.beq e2 e&&decide (c'=c2)&&Nat.beq i2 j'&&Bl P e c2.sz (bytesOf P e)&&Nat.ble (bytesOf P e) 32768&&Nat.ble 1000 S.nx then
     let l:=S.lv (.list c2) i2
     some (.chk (A.and (A.cmp .lss .i64 (A.ki .i64 0) (A.len c2 l)) (A.fitL c2 l)) [⟨.list c2,l⟩] { nt:=rdk x++rdk y,no:=[m],nf:=[S.nx],wt:=[(d,.sref S.nx c2 S.nl)],wo:=[(S.nx,some (.vrow e c2 S.nl pos2 x2)),(m,none)] })
    else none
  | _=>none
 | _,_,_=>none
def Nt (P:Program) (S:St A) (d:Nat) (t:TypeId) (m:Nat) (parts:List (Nat×Operand)):Option (Stp A) :=
 match P.underlying t,parts with
 | some (.slice e),[(i,x)]=>match V3 P 12 e,S.op x with
  | some (.st b),some (.st fs)=>match fs.posN,S.asD (.st fs) (.st b),(TV.st fs).sz? with
   | some pos,some q,some k=>bif Nat.beq m 1&&Nat.beq i 0&&Nat.beq k (Ty.st b).sz&&(Ty.st b).dat false&&tyB P e (Ty.st b).sz (Ty.st b).agg&&zB P e (.d ((Ty.st b).enc (Ty.st b).zero))&&Nat.blt 0 (Ty.st b).sz&&Nat.ble (1*(Ty.st b).sz) 16777216&&Nat.ble 1000 S.nx&&fs.isL&&Nat.blt pos b.nf then
     some (.pure [⟨.list (.st b),A.lit (.st b) [q]⟩] { nt:=rdk x++[],nf:=[S.nx],wt:=[(d,.sref S.nx (.st b) S.nl)],wo:=[(S.nx,some (.vrow e (.st b) S.nl pos .nils))] })
    else none
   | _,_,_=>none
  | _,_=>none
 | _,_=>none
end
variable {pos:Nat} {b:Ty}
theorem Fd {α β:Type} {f g:α->β} {q:α}:∀ l:List α,U6 f g (l++[q])=l.map f++[g q]
 | []=>rfl
 | [y]=>rfl
 | y :: z :: l=>by
  have:=Fd (f:=f) (g:=g) (q:=q) (z :: l);simp only [List.cons_append,U6,List.map_cons] at this ⊢;rw [this]
theorem Pz {α β:Type} {f g:α->β}:∀ {l l':List α},l'≠[]->U6 f g (l++l')=l.map f++U6 f g l'
 | [],_,_=>rfl
 | [y],y' :: l',_=>rfl
 | y :: z :: l,l',h=>by
  have:=Pz (f:=f) (g:=g) (l:=z :: l) h;simp only [List.cons_append,U6,List.map_cons] at this ⊢;rw [this]
theorem A2b {α:Type} {l:List α} {i:Nat} (h:(l.drop i).length=1):∃ q,l=l.take i++[q]∧(l.take i).length=i:=by
 have hl:=List.length_drop (l:=l) (i:=i);rw [h] at hl
 match hd:l.drop i,h with
 | [q],_=>exact⟨q,by rw [<- hd,List.take_append_drop],by rw [List.length_take];omega⟩
theorem Ma {v:V} (hd:(Ty.st b).dat false=true) (hp:pos<b.nf) (hv:v.sz=(b.fty pos).sz) (y:(Ty.st b).T):(Ab pos v (.d ((Ty.st b).enc y))).sz=(Ty.st b).sz:=by
 obtain⟨g1,g2,g3,_⟩:=Ty.M2 (c:=b) hd y pos hp;have e:=Ty.D7 hd y;show V.szL (((b.encs y).map V.d).set pos v)=_;rw [<- e];show _=D.szL (b.encs y);rw [<- N2];have key:∀ (l:List V) (i:Nat) (a:V),l[i]? = some a->a.sz=v.sz->V.szL (l.set i v)=V.szL l:=by
  intro l;induction l with
  | nil=>intro i a h _;simp at h
  | cons z l ih =>
   intro i a h ha;cases i with
   | zero=>simp at h;subst h;simp only [List.set_cons_zero,V.szL,ha]
   | succ i=>simp only [List.set_cons_succ,V.szL,ih i a (by simpa using h) ha]
 exact key _ _ (.d ((b.fty pos).enc (b.fget y pos))) (by rw [List.getElem?_map,g1];rfl) (by rw [hv];exact Ty.D7 g3 _)
theorem A4w [Hid] {v:V} (hd:(Ty.st b).dat false=true) (hp:pos<b.nf) (hv:v.sz=(b.fty pos).sz) (l:List (Ty.st b).T):∀ x∈H0 (.st b) pos v l,x.sz=(Ty.st b).sz:=λx hx=>by
 obtain⟨z,_,rfl | rfl⟩:=Hk hx
 ·exact Ty.D7 hd _
 ·exact Ma hd hp hv z
theorem A7d [Hid] {b:Ty} {pos:Nat} {v:V} (hd:(Ty.st b).dat false=true) (hp:pos<b.nf) (hv:v.sz=(b.fty pos).sz) {l:List (Ty.st b).T} {i:Nat} (hl:(l.drop i).length=1) :
  At (.st (H0 (.st b) pos v l)) (i :: [pos]) (i*(Ty.st b).sz+b.foff pos) v:=by
 obtain⟨q,e,h1⟩:=A2b hl;obtain⟨g1,g2,g3,_⟩:=Ty.M2 (c:=b) hd q pos hp;have he:H0 (.st b) pos v l=(l.take i).map (λy=>V.d ((Ty.st b).enc y))++[Ab pos v (.d ((Ty.st b).enc q))]:=by
  unfold H0;rw [e,Fd,<- e]
 have hml:((l.take i).map (λy=>V.d ((Ty.st b).enc y))).length=i:=by rw [List.length_map];exact h1
 have hlen:pos<((b.encs q).map V.d).length:=by
  have:=(List.getElem?_eq_some_iff.1 g1).1;rw [List.length_map];exact this
 have:=At.st (fs:=H0 (.st b) pos v l) (i:=i) (p:=[pos]) (f:=Ab pos v (.d ((Ty.st b).enc q))) (o:=i*(Ty.st b).sz) (off:=b.foff pos) (y:=v)
  (by rw [he,List.getElem?_append_right (by omega),hml,Nat.sub_self];rfl)
  (by
   rw [he,List.take_append_of_le_length (by omega),List.take_of_length_le (by omega)];rw [E9 (sz:=(Ty.st b).sz) (λx hx=>by obtain⟨z,_,rfl⟩:=List.mem_map.1 hx;exact Ty.D7 hd _),hml])
  (by
   have:=At.st (fs:=((b.encs q).map V.d).set pos v) (i:=pos) (p:=[]) (f:=v) (o:=b.foff pos) (off:=0) (y:=v)
    (by rw [List.getElem?_set_self hlen]) (by rw [List.take_set_of_le (Nat.le_refl _),<- List.map_take,N2];exact g2) (At.here _)
   exact this)
 exact this
theorem A4x [Hid] {b:Ty} {pos:Nat} {v v':V} (hd:(Ty.st b).dat false=true) (hp:pos<b.nf) (hv:v.sz=(b.fty pos).sz) (hv':v'.sz=v.sz) {l:List (Ty.st b).T} {i:Nat} (hl:(l.drop i).length=1) :
  L6 (.st (H0 (.st b) pos v l)) (i :: [pos]) (i*(Ty.st b).sz+b.foff pos) v' (.st (H0 (.st b) pos v' l)):=by
 obtain⟨q,e,h1⟩:=A2b hl;obtain⟨g1,g2,g3,_⟩:=Ty.M2 (c:=b) hd q pos hp;have he:∀ v,H0 (.st b) pos v l=(l.take i).map (λy=>V.d ((Ty.st b).enc y))++[Ab pos v (.d ((Ty.st b).enc q))]:=λv=>by
  unfold H0;rw [e,Fd,<- e]
 have hml:((l.take i).map (λy=>V.d ((Ty.st b).enc y))).length=i:=by rw [List.length_map];exact h1
 have hlen:pos<((b.encs q).map V.d).length:=by
  have:=(List.getElem?_eq_some_iff.1 g1).1;rw [List.length_map];exact this
 have hs:H0 (.st b) pos v' l=(H0 (.st b) pos v l).set i (Ab pos v' (.d ((Ty.st b).enc q))):=by
  rw [he,he,List.set_append_right _ _ (by omega),hml,Nat.sub_self];rfl
 have hset:Ab pos v' (.d ((Ty.st b).enc q)) = .st ((((b.encs q).map V.d).set pos v).set pos v'):=by
  rw [List.set_set];rfl
 rw [hs,hset];refine L6.st (fs:=H0 (.st b) pos v l) (i:=i) (p:=[pos]) (f:=.st (((b.encs q).map V.d).set pos v)) (o:=i*(Ty.st b).sz) (off:=b.foff pos) (y:=v') (f':=.st ((((b.encs q).map V.d).set pos v).set pos v'))
  (by rw [he,List.getElem?_append_right (by omega),hml,Nat.sub_self];rfl)
  (by
   rw [he,List.take_append_of_le_length (by omega),List.take_of_length_le (by omega)];rw [E9 (sz:=(Ty.st b).sz) (λx hx=>by obtain⟨z,_,rfl⟩:=List.mem_map.1 hx;exact Ty.D7 hd _),hml])
  ?_ ?_
 ·have:=L6.st (fs:=((b.encs q).map V.d).set pos v) (i:=pos) (p:=[]) (f:=v) (o:=b.foff pos) (off:=0) (y:=v') (f':=v')
   (by rw [List.getElem?_set_self hlen]) (by rw [List.take_set_of_le (Nat.le_refl _),<- List.map_take,N2];exact g2) (L6.here _ _) hv'
  exact this
 ·rw [<- hset];exact(Ma hd hp (hv'.trans hv) q).trans (Ma hd hp hv q).symm
section
variable {P:Program} {B:D5} {ops:Array Oper} {S:St typ} {d:Nat} {x y:Operand} {ty t:TypeId} {pos:String} {af:Array Edge}
variable {s:Stp typ} {c:Ty}
theorem Vl [Hid] (hN:d<B.N) (hS:S.ok) (h:Nr P S d t x y=some s):s.Ok P B ops ⟨some d,.indexAddr t x y,ty,pos,af,none⟩ S:=by
 unfold Nr at h;split at h
 ·rename_i e n c j hu hx;split at h
  ·rename_i r c' i ps xx hn;split at h
   ·rename_i hc;subst hc;cases hb:tyB P e c'.sz c'.agg with
    | false=>rw [hb] at h;cases h
    | true =>
     rw [hb] at h;simp only [cond_true] at h;split at h
     ·rename_i k a ia lf hy;obtain⟨tx,e1,e2,e3⟩:=A1x hS hy;cases h;intro q hq;have hq':idx (S.lv (.list c') i) a=some q∧List.length (S.lv (.list c') i)=List.length (S.lv (.list c') j):=by
       cases hij:Nat.beq i j with
       | true =>
        rw [hij] at hq;have:=Nat.eq_of_beq_eq_true hij;subst this;exact⟨hq,rfl⟩
       | false =>
        rw [hij] at hq;obtain⟨h1,h2⟩:=N3 hq;exact⟨h2,of_decide_eq_true h1⟩
      refine Wy hx e1 hn (v:=.ptr n ((0+a.toNat)*c'.sz) [0+a.toNat]) ?_ λnt nt' hx hy => ?_
      ·simp only [TV.v,TV.vs,List.headD,e3,Nat.zero_add,Nat.add_zero]
      ·rw [e2] at hy;have:=Yd hq'.1;exact OpJ.indexS hu (F0 hb) (P8 hq'.1).1 (by rw [<- hq'.2];exact this) hN hx hy
     ·cases h
   ·cases h
  ·cases h
 ·cases h
theorem Qa {sz ps off:Nat} {p:List Nat} (h:Jc c b sz ps off p=true):c = .st b∧sz=c.sz∧c.dat false=true∧ps<b.nf∧b.foff ps=off∧p=[ps]:=by
 unfold Jc at h;simp only [Bool.and_eq_true,decide_eq_true_eq] at h;obtain⟨⟨⟨⟨⟨h1,h2⟩,h3⟩,h4⟩,h5⟩,h6⟩:=h;refine⟨h1,Nat.eq_of_beq_eq_true h2,h3,TV.C2 h4,Nat.eq_of_beq_eq_true h5,?_⟩;split at h6
 ·rw [Nat.eq_of_beq_eq_true h6]
 ·cases h6
theorem Qb {k:IntKind} {j i:Nat} (h:Tq S c k j i=true):(List.drop (Int.toNat (S.lv (.int k) i)) (S.lv (.list c) j)).length=1:=of_decide_eq_true h
theorem Za [Hid] (hN:d<B.N) (hS:S.ok) (h:Tr P S d t x=some s):s.Ok P B ops ⟨some d,.load t x,ty,pos,af,none⟩ S:=by
 unfold Tr at h;split at h
 ·rename_i n sz k i off p hx;split at h
  ·rename_i e b j ps z hn;split at h
   ·rename_i m hm;cases hb:Jc (.st b) b sz ps off p&&Nat.beq m (b.fty ps).sz&&tyB P t m z.agg && !z.isL with
    | false=>rw [hb] at h;cases h
    | true =>
     rw [hb] at h;cases h;simp only [Bool.and_eq_true,Bool.not_eq_true'] at hb;obtain⟨⟨⟨b1,b2⟩,b3⟩,b4⟩:=hb;obtain⟨_,rfl,hd,hp,rfl,rfl⟩:=Qa b1;have b2:=Nat.eq_of_beq_eq_true b2;have hlz:z.lt S.nl=true:=by
      have:=F5 (x:=.vrow e (.st b) j ps z) hS.2 hn;simp only [TOb.lt,Bool.and_eq_true] at this;exact this.2
     intro hq;have hl:=Qb hq;have hat:=A7d (v:=z.v S.lv) hd hp ((TV.sz_v hm b4).trans b2) hl;exact Kk hx hn (M8 hlz) λnt hx=>OpJ.loadV (F0 b3) hat (TV.Et b4 (by rw [hm];simp)) (TV.sz_v hm b4) (TV.P3 hm b4).1 hN hx
   ·cases h
  ·cases h
 ·cases h
theorem Vm [Hid] (hS:S.ok) (h:Ns P S t x y=some s):s.Ok P B ops ⟨none,.store t x y,ty,pos,af,none⟩ S:=by
 unfold Ns at h;split at h
 ·rename_i n sz k i off p tv hx hy;split at h
  ·rename_i e b j ps z hn;split at h
   ·rename_i m' m hm' hm;cases hb:Jc (.st b) b sz ps off p&&Nat.beq m (b.fty ps).sz&&Nat.beq m' m&&tyB P t m tv.agg && !tv.isL && !z.isL with
    | false=>rw [hb] at h;cases h
    | true =>
     rw [hb] at h;cases h;simp only [Bool.and_eq_true,Bool.not_eq_true'] at hb;obtain⟨⟨⟨⟨⟨b1,b2⟩,b5⟩,b3⟩,b4⟩,b6⟩:=hb;obtain⟨_,rfl,hd,hp,rfl,rfl⟩:=Qa b1;have b2:=Nat.eq_of_beq_eq_true b2;have b5:=Nat.eq_of_beq_eq_true b5;intro hq;have hl:=Qb hq;have e1:(tv.v S.lv).sz=m:=TV.sz_v hm b4;have e2:(z.v S.lv).sz=m':=TV.sz_v hm' b6;have hst:=A4x (v:=z.v S.lv) (v':=tv.v S.lv) hd hp (e2.trans (b5.trans b2)) (e1.trans (b5.symm.trans e2.symm)) hl;have hlt:(TOb.vrow e (.st b) j ps tv).lt S.nl=true:=by
      have:=F5 (x:=.vrow e (.st b) j ps z) hS.2 hn;simp only [TOb.lt,Bool.and_eq_true] at this ⊢;exact⟨this.1,Al hS hy⟩
     refine B3q (v:=tv.v S.lv) hx hy (.inl rfl) hn (TOb.Ez (λc i hi=>D8 c i hi) hlt) λnt nt' hx hy => ?_;exact OpJ.storeV (F0 b3) hst (by simp only [H0,V8]) (A4w hd hp (e1.trans b2) _) e1 (TV.P3 hm b4).2 (TV.P3 hm b4).1 hx hy
   ·cases h
  ·cases h
 ·cases h
theorem A2c [Hid] {S:St typ}:∀ {fs:TV} {k:Nat} {b:Ty} {ds:List D},fs.posN=some k->CoL (fs.vs S.lv) ds->fs.vs S.lv=(ds.map V.d).set k .nils
 | .cons a r,k,b,ds,h,hc=>by
  have codeCo:∀ {a:TV} {e:D},(Dp a).isSome=true->Co (a.v S.lv) e->a.v S.lv = .d e:=fun {a e} h hc=>by
   cases a<;>simp [Dp] at h
   all_goals (cases hc;rfl)
  have all:∀ {r:TV} {ds:List D},r.allCode=true->CoL (r.vs S.lv) ds->r.vs S.lv=ds.map V.d:=fun {r}=>by
   induction r with
   | nil=>intro ds _ hc;cases hc;rfl
   | cons a r _ ih =>
    intro ds h hc;simp only [TV.allCode,Bool.and_eq_true] at h;simp only [TV.vs] at hc;cases hc with
    | cons h1 h2 =>
     have e1:=codeCo h.1 h1;have e2:=ih h.2 h2;simp only [TV.vs,List.map_cons,e2];exact congrArg (· :: _) e1
   | _=>intro ds h _;simp [TV.allCode] at h
  simp only [TV.vs] at hc;cases hc with
  | @cons f e _ ds h1 h2 =>
   unfold TV.posN at h;split at h
   ·rename_i r' heq;cases heq;cases ha:r.allCode with
    | false=>rw [ha] at h;cases h
    | true =>
     rw [ha] at h;cases h;simp only [TV.vs,List.headD,List.map_cons,List.set_cons_zero,all ha h2]
   ·rename_i heq;cases heq;cases ha:(Dp a).isSome with
    | false=>rw [ha] at h;cases h
    | true =>
     rw [ha,cond_true] at h;cases hr:r.posN with
     | none=>rw [hr] at h;cases h
     | some k' =>
      rw [hr] at h;cases h;have ih:=A2c (S:=S) (b:=b) hr h2;have e1:=codeCo ha h1;simp only [TV.vs,List.map_cons,List.set_cons_succ,ih];exact congrArg (· :: _) e1
   ·cases h
 | .nil,_,_,_,h,_ | .junk,_,_,_,h,_ | .undef,_,_,_,h,_ | .d _ _,_,_,_,h,_ | .kb _,_,_,_,h,_ | .ki _ _,_,_,_,h,_ | .ks _,_,_,_,h,_ | .nils,_,_,_,h,_ | .cst _,_,_,_,h,_ | .ptr _ _ _,_,_,_,h,_ | .eptr ..,_,_,_,h,_ | .aptr ..,_,_,_,h,_ | .dptr _ _,_,_,_,h,_ | .sref _ _ _,_,_,_,h,_ | .qref _ _,_,_,_,h,_ | .qptr _ _ _,_,_,_,h,_ | .tref ..,_,_,_,h,_ | .func _ _,_,_,_,h,_ | .st _,_,_,_,h,_ | .tup _,_,_,_,h,_ | .opt _ _ _,_,_,_,h,_ | .mref _,_,_,_,h,_ | .alt _ _ _,_,_,_,h,_=>by simp [TV.posN] at h
theorem Vn [Hid] {m:Nat} {parts:List (Nat×Operand)} (hB:B.ok) (hN:d<B.N) (hS:S.ok) (hf:A1 S.O S.nx=none) (h:Nt P S d t m parts=some s):s.Ok P B ops ⟨some d,.buildSlice t m parts.toArray,ty,pos,af,none⟩ S:=by
 unfold Nt at h;split at h
 ·rename_i e i x hu;split at h
  ·rename_i b fs hc hx;split at h
   ·rename_i ps q k hp hq hk;cases hb:Nat.beq m 1&&Nat.beq i 0&&Nat.beq k (Ty.st b).sz&&(Ty.st b).dat false&&tyB P e (Ty.st b).sz (Ty.st b).agg&&zB P e (.d ((Ty.st b).enc (Ty.st b).zero))&&Nat.blt 0 (Ty.st b).sz&&Nat.ble (1*(Ty.st b).sz) 16777216&&Nat.ble 1000 S.nx&&fs.isL&&Nat.blt ps b.nf with
    | false=>rw [hb] at h;cases h
    | true =>
     rw [hb] at h;cases h;simp only [Bool.and_eq_true] at hb;obtain⟨⟨⟨⟨⟨⟨⟨⟨⟨⟨b1,b2⟩,b3⟩,hd⟩,b5⟩,b6⟩,b7⟩,b8⟩,b9⟩,b10⟩,b11⟩:=hb;have b1:=Nat.eq_of_beq_eq_true b1;have b2:=Nat.eq_of_beq_eq_true b2;have b3:=Nat.eq_of_beq_eq_true b3;subst b1 b2;have hco:CoL [V.st (fs.vs S.lv)] ((Ty.st b).encs q):=Ls hq hd;have hcl:Co (V.st (fs.vs S.lv)) ((Ty.st b).enc q):=W9 hq hd;have hv:V.st (fs.vs S.lv)=Ab ps .nils (.d ((Ty.st b).enc q)):=by
      have:(Ty.st b).enc q = .st (b.encs q):=rfl;rw [this] at hcl ⊢;cases hcl with
      | st hl =>
       have:=A2c (S:=S) (b:=b) hp hl;show V.st (fs.vs S.lv) = .st (((b.encs q).map V.d).set ps .nils);rw [this]
     have hsz:(V.st (fs.vs S.lv)).sz=(Ty.st b).sz:=by
      have:=TV.sz_v (f:=S.lv) hk rfl;rw [<- b3];exact this
     have hz:(V.d ((Ty.st b).enc (Ty.st b).zero)).sz=(Ty.st b).sz:=Ty.D7 hd _;refine⟨_,OpJ.buildSliceV (n:=1) (nm:=S.nx) (len:=1) (z:=(Ty.st b).enc (Ty.st b).zero) hu (F0 b5) (Dc b6) (Ty.D7 hd _) (TV.C2 b7) (Nat.le_of_ble_eq_true b8) hB (Nat.le_of_ble_eq_true b9) rfl
      (parts:=[(0,x)]) (vs:=[(0,V.st (fs.vs S.lv))]) (.cons (B6 hx).1 .nil) ?_ (es:=[V.st (fs.vs S.lv)]) rfl rfl (λz hz=>by rw [List.mem_singleton.1 hz];exact hsz) (λp hp=>by rw [List.mem_singleton.1 hp];exact Nat.one_pos) hN,?_,rfl,rF1 hf,?_,?_,?_,rfl,rfl⟩
     ·have n1:Nat.beq (V.st (fs.vs S.lv)).sz (V.d ((Ty.st b).enc (Ty.st b).zero)).sz=true:=by rw [hsz,hz];exact Nat.beq_refl _
      have n2:Nat.beq (Ty.st b).sz (V.d ((Ty.st b).enc (Ty.st b).zero)).sz=true:=by rw [hz];exact Nat.beq_refl _
      simp only [R2,List.replicate,List.getElem?_cons_zero,List.range,List.range.loop,List.map_cons,List.map_nil,n1,n2,V.isTop,Bool.not_false,Bool.and_true,List.take_zero,V.szL,Nat.zero_mul,Nat.beq_refl]
     ·rw [List.append_nil];exact(B6 hx).2
     ·have:=F6 (S:=S) (c:=.list (.st b)) (x:=typ.lit (.st b) [q]) (l:=[]);refine Eq.symm ?_;show [(d,V.sref S.nx (Ty.st b).sz 0 (List.length (S.push [⟨.list (.st b),typ.lit (.st b) [q]⟩] (.list (.st b)) S.nl)))]=_;rw [this];rfl
     ·have:=F6 (S:=S) (c:=.list (.st b)) (x:=typ.lit (.st b) [q]) (l:=[]);refine Eq.symm ?_;show [(S.nx,some (Ob.vrow e (Ty.st b).sz (H0 (.st b) ps (TV.nils.v (S.push [⟨.list (.st b),typ.lit (.st b) [q]⟩])) (S.push [⟨.list (.st b),typ.lit (.st b) [q]⟩] (.list (.st b)) S.nl))))]=_;rw [this,hv];rfl
     ·rw [List.append_nil,List.append_nil];exact C5 _ _
   ·cases h
  ·cases h
 ·cases h
theorem Mb [Hid] {b:Ty} {ps:Nat} {v:V} {z:(b.fty ps).T} (hd:(Ty.st b).dat false=true) (hp:ps<b.nf) (hv:Co v ((b.fty ps).enc z)):∀ l:List (Ty.st b).T,CoL (H0 (.st b) ps v l) ((G9 (λy=>b.fset y ps z) l).map (Ty.st b).enc)
 | [] => .nil
 | [y]=>by
  obtain⟨_,_,_,g4⟩:=Ty.M2 (c:=b) hd y ps hp;have set:∀ (ds:List D) (k:Nat) (e:D),Co v e->CoL ((ds.map V.d).set k v) (ds.set k e):=by
   intro ds;induction ds with
   | nil=>intro k e _;exact .nil
   | cons d ds ih =>
    intro k e he;cases k with
    | zero =>
     refine .cons he ?_;have:∀ l:List D,CoL (l.map V.d) l:=λl=>by
      induction l with
      | nil=>exact .nil
      | cons d l ih=>exact .cons (.d d) ih
     exact this ds
    | succ k=>exact .cons (.d d) (ih k e he)
  refine .cons ?_ .nil;show Co (.st (((b.encs y).map V.d).set ps v)) (.st (b.encs (b.fset y ps z)));rw [g4];exact .st (set _ _ _ hv)
 | y :: y' :: l => .cons (.d _) (Mb hd hp hv (y' :: l))
theorem Mc:∀ {fs:List V} {es:List D},CoL fs es->TwL Tc fs (es.map V.d)
 | _,_,.nil => .nil
 | _,_,.cons h k => .cons (.leaf ⟨_,h,rfl⟩) (Mc k)
theorem A4y [Hid] (hB:B.ok) (hN:d<B.N) (hS:S.ok) (hf:A1 S.O S.nx=none) (h:A10 P S d t x y=some s):s.Ok P B ops ⟨some d,.call { callee:=.builtin .append,args:=#[x,y],argTypes:=#[t,t] },ty,pos,af,none⟩ S:=by
 unfold A10 at h;split at h
 ·rename_i e n c j m c' j' hu hx hy;split at h
  ·rename_i e1 b i ps x1 e2 c2 i2 ps2 x2 hn hm;split at h
   ·rename_i z hz;cases hb:Nat.beq e1 e&&Nat.beq e2 e&&decide (c = .st b)&&decide (c' = .st b)&&decide (c2 = .st b)&&Nat.beq i j&&Nat.beq i2 j'&&Nat.beq ps ps2 && !Nat.beq m n&&Bl P e (Ty.st b).sz (bytesOf P e)&&Nat.ble (bytesOf P e) 32768&&Nat.ble 1000 S.nx&&(Ty.st b).dat false&&Nat.blt ps b.nf with
    | false=>rw [hb] at h;cases h
    | true =>
     rw [hb] at h;cases h;simp only [Bool.and_eq_true,decide_eq_true_eq,Bool.not_eq_true'] at hb;obtain⟨⟨⟨⟨⟨⟨⟨⟨⟨⟨⟨⟨⟨b1,b2⟩,rfl⟩,rfl⟩,rfl⟩,b6⟩,b7⟩,b8⟩,b9⟩,b10⟩,b11⟩,b12⟩,hd⟩,b14⟩:=hb;have b1:=(Nat.eq_of_beq_eq_true b1).symm;have b2:=(Nat.eq_of_beq_eq_true b2).symm;have b6:=Nat.eq_of_beq_eq_true b6;have b7:=Nat.eq_of_beq_eq_true b7;have b8:=Nat.eq_of_beq_eq_true b8;subst b1 b2 b6 b7 b8;have hp:=TV.C2 b14;have hmn:m≠n:=λe=>by subst e;rw [Nat.beq_refl] at b9;cases b9
     intro hq;obtain⟨q1,q2⟩:=H8 hq;have q1:decide ((0:Int)<((List.length (S.lv (.list (.st b)) i2):Nat):Int))=true:=q1;have q1:=of_decide_eq_true q1;have hne:S.lv (.list (.st b)) i2≠[]:=λe=>by rw [e] at q1;simp at q1
     have hpd:(b.fty ps).dat false=true:=by
      cases hl:S.lv (.list (.st b)) i2 with
      | nil=>exact absurd hl hne
      | cons w _=>exact(Ty.M2 (c:=b) hd w ps hp).2.2.1
     have hco:=W9 hz hpd;have hce:=Mb hd hp hco (S.lv (.list (.st b)) i);have hlt2:x2.lt S.nl=true:=by
      have:=F5 (x:=.vrow e (.st b) i2 ps x2) hS.2 hm;simp only [TOb.lt,Bool.and_eq_true] at this;exact this.2
     have hlen:((G9 (λy=>b.fset y ps z) (S.lv (.list (.st b)) i)).map (λy=>V.d ((Ty.st b).enc y))++H0 (.st b) ps (x2.v S.lv) (S.lv (.list (.st b)) i2)).length=List.length (List.append (G9 (λy=>b.fset y ps z) (S.lv (.list (.st b)) i)) (S.lv (.list (.st b)) i2)):=by
      simp only [List.length_append,List.length_map,H0,V8,List.append_eq]
     have q2:decide (List.length (List.append (G9 (λy=>b.fset y ps z) (S.lv (.list (.st b)) i)) (S.lv (.list (.st b)) i2))<=LIM)=true:=q2;refine⟨_,OpJ.appendV hB hu (W4 b10) (Nat.le_of_ble_eq_true b12) hmn (fs:=H0 (.st b) ps (x1.v S.lv) (S.lv (.list (.st b)) i)) (fs2:=(G9 (λy=>b.fset y ps z) (S.lv (.list (.st b)) i)).map λy=>V.d ((Ty.st b).enc y)) (gs:=H0 (.st b) ps (x2.v S.lv) (S.lv (.list (.st b)) i2))
      (len:=List.length (List.append (G9 (λy=>b.fset y ps z) (S.lv (.list (.st b)) i)) (S.lv (.list (.st b)) i2))) ?_ rfl hlen.symm ?_ ?_ ?_ hN (l0:=List.length (S.lv (.list (.st b)) i)) (l1:=List.length (S.lv (.list (.st b)) i2)) (by simp only [H0,V8]) (by simp only [H0,V8]) (B6 hx).1 (B6 hy).1,E4 (B6 hx).2 (B6 hy).2,?_,rF1 hf,?_,?_,by rw [D6,C5,C5],rfl,rfl⟩
     ·have:=Mc hce;rw [List.map_map] at this;exact this
     ·intro e;apply hne;have:=congrArg List.length e;simp only [H0,V8,List.length_nil] at this;exact List.eq_nil_of_length_eq_zero this
     ·rw [hlen];exact Y9 q2 b11
     ·rw [hlen];exact Fz q2
     ·simp only [rO,rO',F4,hn,hm,Option.map_some,TOb.o]
     ·simp only [eOf,List.map,T2]
     ·have e3:=F6 (S:=S) (c:=.list (.st b)) (x:=List.append (G9 (λy=>b.fset y ps z) (S.lv (.list (.st b)) i)) (S.lv (.list (.st b)) i2)) (l:=[]);refine Eq.symm ?_;show [(S.nx,some (Ob.vrow e (Ty.st b).sz (H0 (.st b) ps (x2.v (S.push [⟨.list (.st b),List.append (G9 (λy=>b.fset y ps z) (S.lv (.list (.st b)) i)) (S.lv (.list (.st b)) i2)⟩])) (S.push [⟨.list (.st b),List.append (G9 (λy=>b.fset y ps z) (S.lv (.list (.st b)) i)) (S.lv (.list (.st b)) i2)⟩] (.list (.st b)) S.nl)))),(m,none),(n,none)]=_;rw [e3,M8 hlt2];have:H0 (.st b) ps (x2.v S.lv) (List.append (G9 (λy=>b.fset y ps z) (S.lv (.list (.st b)) i)) (S.lv (.list (.st b)) i2))=(G9 (λy=>b.fset y ps z) (S.lv (.list (.st b)) i)).map (λy=>V.d ((Ty.st b).enc y))++H0 (.st b) ps (x2.v S.lv) (S.lv (.list (.st b)) i2):=by
       unfold H0;exact Pz hne
      rw [this]
   ·cases h
  ·cases h
 ·rename_i e m c' j' hu hx hy;split at h
  ·rename_i e2 c2 i2 ps2 x2 hm;cases hb:Nat.beq e2 e&&decide (c'=c2)&&Nat.beq i2 j'&&Bl P e c2.sz (bytesOf P e)&&Nat.ble (bytesOf P e) 32768&&Nat.ble 1000 S.nx with
   | false=>rw [hb] at h;cases h
   | true =>
    rw [hb] at h;cases h;simp only [Bool.and_eq_true,decide_eq_true_eq] at hb;obtain⟨⟨⟨⟨⟨b2,rfl⟩,b7⟩,b10⟩,b11⟩,b12⟩:=hb;have b2:=(Nat.eq_of_beq_eq_true b2).symm;have b7:=Nat.eq_of_beq_eq_true b7;subst b2 b7;intro hq;obtain⟨q1,q2⟩:=H8 hq;have q1:decide ((0:Int)<((List.length (S.lv (.list c') i2):Nat):Int))=true:=q1;have q1:=of_decide_eq_true q1;have hne:S.lv (.list c') i2≠[]:=λe=>by rw [e] at q1;simp at q1
    have hlt2:x2.lt S.nl=true:=by
     have:=F5 (x:=.vrow e c' i2 ps2 x2) hS.2 hm;simp only [TOb.lt,Bool.and_eq_true] at this;exact this.2
    have hll:(H0 c' ps2 (x2.v S.lv) (S.lv (.list c') i2)).length=List.length (S.lv (.list c') i2):=by simp only [H0,V8]
    have q2:decide (List.length (S.lv (.list c') i2)<=LIM)=true:=q2;refine⟨_,OpJ.appendNV hB hu (W4 b10) (Nat.le_of_ble_eq_true b12) (gs:=H0 c' ps2 (x2.v S.lv) (S.lv (.list c') i2))
     (len:=List.length (S.lv (.list c') i2)) hll.symm ?_ ?_ ?_ hN (l1:=List.length (S.lv (.list c') i2)) hll.symm (B6 hx).1 (B6 hy).1,E4 (B6 hx).2 (B6 hy).2,?_,rF1 hf,?_,?_,by rw [D6,C5,C5],rfl,rfl⟩
    ·intro e;apply hne;have:=congrArg List.length e;rw [hll] at this;exact List.eq_nil_of_length_eq_zero this
    ·rw [hll];exact Y9 q2 b11
    ·rw [hll];exact Fz q2
    ·simp only [rO,rO',F4,hm,Option.map_some,TOb.o]
    ·simp only [eOf,List.map,T2]
    ·have e3:=F6 (S:=S) (c:=.list c') (x:=S.lv (.list c') i2) (l:=[]);refine Eq.symm ?_;show [(S.nx,some (Ob.vrow e c'.sz (H0 c' ps2 (x2.v (S.push [⟨.list c',S.lv (.list c') i2⟩])) (S.push [⟨.list c',S.lv (.list c') i2⟩] (.list c') S.nl)))),(m,none)]=_;rw [e3,M8 hlt2]
  ·cases h
 ·cases h
end
end Go.Vc
namespace Go.Vc
open Go
section
variable {A:Alg}
abbrev tyI:Ty:=.int .i64
def B78 (P:Program) (S:St A) (d:Nat):Op->Option (Stp A)
 | .indexAddr t x y=>match P.underlying t,S.op x,S.ix y with
  | some (.slice e),some (.qref n j),some ⟨k,a,ia,lf⟩=>match A1 S.O n with
   | some (some (.qrow _ i))=>bif Nat.beq i j&&tyB P e 1 false then some (.bind tyI (A.idx tyI k (S.lv (.list tyI) j) a) (λ_=>lf) { nt:=rdk x++rdk y,no:=[n],wt:=[(d,.qptr n k ia)] }) else none
   | _=>none
  | _,_,_=>none
 | .load t x=>match S.op x with
  | some (.qptr n k i)=>match A1 S.O n with
   | some (some (.qrow _ j))=>bif tyB P t 1 false then some (.bind tyI (A.idx tyI k (S.lv (.list tyI) j) (S.lv (.int k) i)) (λq=>[⟨tyI,q⟩]) { nt:=rdk x,no:=[n],wt:=[(d,.d tyI S.nl)] }) else none
   | _=>none
  | _=>none
 | .call { callee:=.builtin .len,args:=⟨[x]⟩,argTypes:=⟨[t]⟩ }=>match P.underlying t,S.op x with
  | some (.slice _),some (.qref n j)=>match A1 S.O n with
   | some (some _)=>some (S.leaf1 d (rdk x) [n] tyI (A.len tyI (S.lv (.list tyI) j)))
   | _=>none
  | _,_=>none
 | _=>none
end
section
variable {P:Program} {B:D5} {ops:Array Oper} {S:St typ} {d:Nat} {ty:TypeId} {pos:String} {af:Array Edge}
theorem B2e {pre q:List Int} {i:Int} {x:Int} (h:idx q i=some x):((pre++q).map (Ty.enc tyI))[pre.length+i.toNat]? = some (.int .i64 x):=B1u (Ty.enc tyI) (B25 h)
theorem B2f [Hid] {op:Op} {s:Stp typ} (hN:d<B.N) (hS:S.ok) (h:B78 P S d op=some s):s.Ok P B ops ⟨some d,op,ty,pos,af,none⟩ S:=by
 unfold B78 at h;split at h
 ·rename_i t x y;split at h
  ·rename_i e n j k a ia lf hu hx hy;split at h
   ·rename_i r i hn;cases hb:Nat.beq i j&&tyB P e 1 false with
    | false=>rw [hb] at h;cases h
    | true =>
     rw [hb] at h;cases h;rw [Bool.and_eq_true] at hb;have:=Nat.eq_of_beq_eq_true hb.1;subst this;obtain⟨tx,e1,e2,e3⟩:=A1x hS hy;intro q hq;refine Wy hx e1 hn (v:=.ptr n ((Hid.pre.length+a.toNat)*1) [Hid.pre.length+a.toNat]) ?_ λnt nt' hx hy => ?_
     ·simp only [TV.v,TV.vs,List.headD,e3]
     ·rw [e2] at hy;exact OpJ.indexS hu (F0 hb.2) (P8 hq).1 (Yd hq) hN hx hy
   ·cases h
  ·cases h
 ·rename_i t x;split at h
  ·rename_i n k i hx;split at h
   ·rename_i e j hn;cases hb:tyB P t 1 false with
    | false=>rw [hb] at h;cases h
    | true =>
     rw [hb] at h;cases h;intro q hq;exact Kk hx hn E5 λnt hx=>OpJ.loadR (F0 hb) (B2e hq) (At.here _) rfl rfl rfl hN hx
   ·cases h
  ·cases h
 ·rename_i x t;split at h
  ·rename_i e n j hu hx;split at h
   ·rename_i b hn;cases h;exact Kk hx hn E5 λnt hx=>OpJ.lenS hu hN hx
   ·cases h
  ·cases h
 ·cases h
end
end Go.Vc
namespace Go.Vc
open Go
variable {P:Program} {B:D5} {ops:Array Oper}
section
variable {d:Nat} {x y:Operand} {ty:TypeId} {pos:String} {af:Array Edge} {nt nt' nt'':List (Nat×V)}
theorem Ot (w:World) (t ty e:TypeId) {sz:Nat} {ag:Bool} (hu:P.underlying t=some (.slice e)) (ht:TyS P e sz ag) (g sLen sCap:Nat) (cur:Array Value) (hg:w.heap[g]? = some (.cells cur e (0,0)))
  (yv:Value) (m:Nat) (news:List Value) (hm:(Builtin.lenOf yv).run P w = .ok m w) (hf:(Builtin.firstCells sz m yv).run P w = .ok news.toArray w) (h1:∀ u∈news,u.oneCell'=true) (hroom:sLen+m<=sCap) (hfit:sLen*sz+news.length<=cur.size) :
  (Builtin.append_ #[t,t] ty #[.slice (some ⟨g,0,none⟩) sLen sCap,yv]).run P w = .ok (.slice (some ⟨g,0,none⟩) (sLen+m) sCap) (w.setRow g (cur.toList.take (sLen*sz)++news++cur.toList.drop (sLen*sz+news.length)).toArray):=by
 have hst:=run_storeCells_at P g (sLen*sz) e news 0 cur w hg (by simpa using hfit) h1;simp only [Nat.add_zero] at hst;have hsz:=ht.run_size w;simp [Builtin.append_,run_underlying hu,hsz,hm,hroom,hf,Addr.add_lit,hst]
end
end Go.Vc
namespace Go.Vc
open Go
section
variable {P:Program} {B:D5} {ops:Array Oper} {d:Nat} {x y:Operand} {ty:TypeId} {pos:String} {af:Array Edge} {nt nt':List (Nat×V)}
theorem OpJ.appendOwn {t e sz nm i j m:Nat} {ag:Bool} {es es':List D} (hu:P.underlying t=some (.slice e)) (ht:TyS P e sz ag) (h0:0<sz) (hij:i<=j) (hjl:j<=es.length) (hm0:m=es.length-j) (hpos:0<es.length) (hes:es'=es.take i++(es.drop j).take m++es.drop (i+m)) {len:Nat} (hlen:len=i+m) (hN:d<B.N)
  (hx:Opd x (.sref nm sz 0 i) nt) (hy:Opd y (.sref nm sz j m) nt') :
  OpJ P B ops ⟨some d,.call { callee:=.builtin .append,args:=#[x,y],argTypes:=#[t,t] },ty,pos,af,none⟩ { nt:=nt++nt',no:=[(nm,.row e sz es)],wt:=[(d,.sref nm sz 0 len)],wo:=[(nm,some (.row e sz es'))] } :=
 OpJ.run rfl rfl hN rfl λenv ob a w σ Z sm hne=>by
  subst hlen;have hjm:j+m<=es.length:=by omega
  obtain⟨g1,g2⟩:=B4 hne.1;have hob:ob nm=some (some (.row e sz es)):=hne.2.1 (nm,_) (by simp);have hlv:live ob nm:=⟨_,hob⟩;obtain⟨ad,c,hv,hlc,hc63,hd⟩:=O9 (hx B env ob a w σ Z sm g1) hlv;have hro:=sm.obj nm _ hob;obtain⟨b,e',hσ,_,hshc,had⟩:∃ b e,σ nm=some b∧(c=0∨ad=some ⟨b,0*sz,none⟩)∧w.shape? b=some (e,(0+c)*sz)∧(0=0->ad=some ⟨b,0,none⟩):=by
   rcases hd with ⟨k1,_⟩ | hd
   ·exfalso;obtain⟨_,_,v,xs,⟨_,h2⟩,h3,h4,h5⟩:=hro;have:=h5 k1;rw [this] at hpos;exact Nat.lt_irrefl _ hpos
   ·exact hd
  rw [had rfl] at hv;obtain⟨cur,cap,xs,hw,hcsz,hl2,_⟩:=Ob.row_cells hro hσ;have hcc:cap*sz=c*sz:=by
   have hshape:w.shape? b=some (e,cur.size):=by simp [World.shape?,hw]
   rw [hshape] at hshc;have:=congrArg Prod.snd (Option.some.inj hshc);simp only at this;rw [<- hcsz,this,Nat.zero_add]
  have hle:es.length<=c:=by
   have:cap=c:=Nat.eq_of_mul_eq_mul_right h0 hcc;omega
  have hyr:=hy B env ob a w σ Z sm g2;have hsz:∀ q∈(es.drop j).take m,q.sz=sz:=λq hq=>hro.2.1 q (List.mem_of_mem_drop (List.mem_of_mem_take hq));have hylen:((es.drop j).take m).length=m:=by rw [List.length_take,List.length_drop];omega
  have src:∃ cs,(Builtin.lenOf (a.eval y)).run P w = .ok m w∧(Builtin.firstCells sz m (a.eval y)).run P w = .ok cs.toArray w∧D.repL Z w ((es.drop j).take m) cs∧cs.length=m*sz∧∀ u∈cs,u.oneCell'=true:=by
   by_cases hm:m=0
   ·subst hm;obtain⟨ad,c',hv',_,_,_⟩:=O9 hyr hlv;refine⟨[],by rw [hv'];simp [Builtin.lenOf],?_,by simp [D.repL],by simp,λu hu=>by cases hu⟩;rw [hv'];cases ad with
    | none=>simp [Builtin.firstCells]
    | some A =>
     have:=run_loadCells_list (P:=P) w A [] (λj v h=>by simp at h);simpa [Builtin.firstCells] using this
   ·obtain⟨sa,sc,cs,hyv,q1,q2,q3,q4⟩:=B24 sm hob hyr (by omega) (Nat.le_refl m) hjm;have hl:=run_loadCells_list (P:=P) w sa cs q3;refine⟨cs,by rw [hyv];simp [Builtin.lenOf],?_,q1,q2,q4⟩;rw [hyv];simp [Builtin.firstCells,<- q2,hl]
  obtain⟨cs,s1,s2,q1,q2,q4⟩:=src;have hfit:i*sz+cs.length<=cur.size:=by
   rw [hcsz,q2,<- Nat.add_mul];exact Nat.mul_le_mul_right _ (by omega)
  have hrun:=Ot (P:=P) w t ty e hu ht b i c cur hw (a.eval y) m cs s1 s2 q4 (by omega) hfit;obtain⟨cur',hw',_,s'⟩:=sm.splice (k:=i) hob hσ q1 hsz (by rw [hylen];omega) (es':=es') (by rw [hylen];exact hes);have:cur'=cur:=by rw [hw] at hw';cases hw';rfl
  subst this;rw [F1 _ rfl];refine⟨_,_,σ,Z,by simp only [execOp,resolve,invoke,builtin,Sem.run_bind,Sem.run_pure,Result.andThen_ok,List.map_toArray,List.map_cons,List.map_nil,hv,hrun];rfl,s',?_⟩;have hl':live (B9 ob nm (some (.row e sz es'))) nm:=⟨.row e sz es',by simp [B9]⟩;refine⟨⟨hl'.used,λ_=>⟨_,c,rfl,by omega,hc63,.inr ⟨b,e',hσ,.inr (by simp),?_,λ_=>rfl⟩⟩⟩,.inr rfl⟩;have hfz:i*sz+cs.length<=cur'.size:=hfit;simp only [World.shape?,setRow_heap w b cur' _ e _ hw,Option.some.injEq,Prod.mk.injEq,List.size_toArray,List.length_append,List.length_take,List.length_drop,Array.length_toList];have he:e=e':=by
   have hshape:w.shape? b=some (e,cur'.size):=by simp [World.shape?,hw]
   rw [hshape] at hshc;exact congrArg Prod.fst (Option.some.inj hshc)
  refine⟨he,?_⟩;rw [Nat.zero_add,<- hcc,<- hcsz];omega
theorem OpJ.shrW {o:Oper} {nt:List (Nat×V)} {d nm e sz k:Nat} {es es1 es':List D} {v:V} (h:OpJ P B ops o { nt,no:=[(nm,.row e sz es)],wt:=[(d,v)],wo:=[(nm,some (.row e sz es1))] }) (hk:k<=es1.length) (he:es'=es1.take k) :
  OpJ P B ops o { nt,no:=[(nm,.row e sz es)],wt:=[(d,v)],wo:=[(nm,some (.row e sz es'))] }:=by
 subst he;intro Q env ob a w σ Z K s hn hK;refine h Q env ob a w σ Z K s hn λa' w' σ' Z' s' => ?_;rw [F1 _ rfl] at s';refine hK a' w' σ' Z' ?_;have hob:B9 ob nm (some (.row e sz es1)) nm=some (some (.row e sz es1)):=by simp [B9]
 have:=s'.shrink hob hk;have e2:Eff.obs { nt,no:=[(nm,.row e sz es)],wt:=[(d,v)],wo:=[(nm,some (.row e sz (es1.take k)))] } ob=B9 (B9 ob nm (some (.row e sz es1))) nm (some (.row e sz (es1.take k))):=by
  rw [F1 _ rfl];funext i;unfold B9
  by_cases hi:i=nm
  ·simp [hi]
  ·simp [hi]
 rw [e2];exact this
theorem OpJ.appendCut {α:Type} {f:α->D} {t e sz nm i j:Nat} {ag:Bool} {xs:List α} (hu:P.underlying t=some (.slice e)) (ht:TyS P e sz ag) (h0:0<sz) (hij:i<j) (hjl:j<=xs.length) {len m:Nat} (hlen:len=(xs.take i++xs.drop j).length) (hm:m=xs.length-j) (hN:d<B.N)
  (hx:Opd x (.sref nm sz 0 i) nt) (hy:Opd y (.sref nm sz j m) nt') :
  OpJ P B ops ⟨some d,.call { callee:=.builtin .append,args:=#[x,y],argTypes:=#[t,t] },ty,pos,af,none⟩ { nt:=nt++nt',no:=[(nm,.row e sz (xs.map f))],wt:=[(d,.sref nm sz 0 len)],wo:=[(nm,some (.row e sz ((xs.take i++xs.drop j).map f)))] }:=by
 have hl:(xs.map f).length=xs.length:=List.length_map ..;have e1:((xs.map f).drop j).take m=(xs.map f).drop j:=List.take_of_length_le (by rw [List.length_drop,hl,hm];exact Nat.le_refl _);have e2:((xs.map f).take i++(xs.map f).drop j).length=i+m:=by rw [List.length_append,List.length_take,List.length_drop,hl];omega
 refine OpJ.shrW (k:=i+m) (OpJ.appendOwn (i:=i) (j:=j) (m:=m) hu ht h0 (Nat.le_of_lt hij) (by rw [hl];exact hjl) (by rw [hl];exact hm) (by rw [hl];omega) rfl (by rw [hlen,List.length_append,List.length_take,List.length_drop];omega) hN hx hy) ?_ ?_
 ·rw [e1,List.length_append,e2];omega
 ·rw [e1,<- e2,List.take_left];simp [List.map_take,List.map_drop]
end
end Go.Vc
