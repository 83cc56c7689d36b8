/- Renaming and forgetting; contracts; code. -/
import Derived.Test.YtkhjkjojjdkidaaGreatDoorVcH
namespace Go.Vc
open Go
variable {P:Program} {B:Base} {ops:Array Oper}
mutual
def V.ren (r:Nat→Nat):V→V
 | .ptr n off p => .ptr (r n) off p
 | .sref n sz off len => .sref (r n) sz off len
 | .func f caps => .func f (V.renL r caps)
 | .st fs => .st (V.renL r fs)
 | .tup fs => .tup (V.renL r fs)
 | .opt g x => .opt g (V.ren r x)
 | .mref n => .mref (r n)
 | x=>x
def V.renL (r:Nat→Nat):List V→List V
 | []=>[]
 | x :: xs=>V.ren r x :: V.renL r xs
end
def Ob.ren (r:Nat→Nat):Ob→Ob
 | .box t x => .box t (x.ren r)
 | .row e sz es => .row e sz es
 | .blk s => .blk s
 | .know k => .know k
 | .reg r => .reg r
mutual
def V.names:V→List Nat
 | .ptr n _ _=>[n]
 | .sref n _ _ _=>[n]
 | .func _ caps=>V.namesL caps
 | .st fs=>V.namesL fs
 | .tup fs=>V.namesL fs
 | .opt _ x=>V.names x
 | .mref n=>[n]
 | _=>[]
def V.namesL:List V→List Nat
 | []=>[]
 | x :: xs=>V.names x++V.namesL xs
end
def Ob.names:Ob→List Nat
 | .box _ x=>x.names
 | .row .. => []
 | .blk _=>[]
 | .know _=>[]
 | .reg _=>[]
theorem V.ren_agg (r:Nat→Nat) (x:V):(x.ren r).isAgg=x.isAgg:=by cases x<;>rfl
mutual
theorem V.ren_sz (r:Nat→Nat):∀ (x:V),(x.ren r).sz=x.sz
 | .st fs=>V.ren_szL r fs
 | .junk=>rfl
 | .d _=>rfl
 | .nils=>rfl
 | .ptr .. => rfl
 | .dptr _=>rfl
 | .sref .. => rfl
 | .func .. => rfl
 | .tup _=>rfl
 | .opt .. => rfl
 | .mref _=>rfl
 | .full .. => rfl
theorem V.ren_szL (r:Nat→Nat):∀ (xs:List V),V.szL (V.renL r xs)=V.szL xs
 | []=>rfl
 | x :: xs=>by simp [V.renL,V.szL,V.ren_sz r x,V.ren_szL r xs]
end
structure Back (r:Nat→Nat) (ob ob':Obs) (σ σ':Nat→Option Nat) (ns:List Nat):Prop where
 us:∀ n∈ns,used ob' n
 lv:∀ n∈ns,live ob' n→live ob (r n)∧σ' n=σ (r n)
section
variable {r:Nat→Nat} {ob ob':Obs} {σ σ':Nat→Option Nat} {Z:Nat→Prop} {w:World}
theorem Back.mono {ns ns':List Nat} (h:Back r ob ob' σ σ' ns) (hs:∀ n∈ns',n∈ns):Back r ob ob' σ σ' ns':=⟨fun n hn=>h.us n (hs n hn),fun n hn=>h.lv n (hs n hn)⟩
mutual
theorem V.unren:∀ (x:V) (cs:List Value),Back r ob ob' σ σ' x.names→V.rep ob σ Z w (x.ren r) cs→V.rep ob' σ' Z w x cs
 | .junk,_,_,h=>h
 | .d _,_,_,h=>h
 | .nils,_,_,h=>h
 | .dptr _,_,_,h=>h
 | .ptr n off p,cs,b,h=>⟨b.us n (by simp [V.names]),fun hl=>by
   obtain⟨l,e⟩:=b.lv n (by simp [V.names]) hl
   obtain⟨k,h1,h2⟩:=h.2 l
   exact⟨k,e.trans h1,h2⟩⟩
 | .full ..,_,_,h=>h
 | .mref n,cs,b,h=>⟨b.us n (by simp [V.names]),fun hl=>by
   obtain⟨l,e⟩:=b.lv n (by simp [V.names]) hl
   obtain⟨k,h1,h2⟩:=h.2 l
   exact⟨k,e.trans h1,h2⟩⟩
 | .sref n sz off len,cs,b,h=>⟨b.us n (by simp [V.names]),fun hl=>by
   obtain⟨l,e⟩:=b.lv n (by simp [V.names]) hl
   obtain⟨a,c,h1,h2,h3,h4⟩:=h.2 l
   exact⟨a,c,h1,h2,h3,by rw [e];exact h4⟩⟩
 | .func f caps,cs,b,h=>by
  obtain⟨cvs,h1,h2⟩:=h
  exact⟨cvs,h1,V.unrenL caps cvs b h2⟩
 | .st fs,cs,b,h=>V.unrenS fs cs b h
 | .tup _,_,_,h=>h.elim
 | .opt ..,_,_,h=>h.elim
theorem V.unrenL:∀ (xs:List V) (cs:List Value),Back r ob ob' σ σ' (V.namesL xs)→V.repL ob σ Z w (V.renL r xs) cs→V.repL ob' σ' Z w xs cs
 | [],_,_,h=>h
 | x :: xs,cs,b,h=>by
  obtain⟨c,rest,h1,h0,h2,h3⟩:=h
  exact⟨c,rest,h1,h0,V.unren x [c] (b.mono fun n hn=>List.mem_append_left _ hn) h2,V.unrenL xs rest (b.mono fun n hn=>List.mem_append_right _ hn) h3⟩
theorem V.unrenS:∀ (xs:List V) (cs:List Value),Back r ob ob' σ σ' (V.namesL xs)→V.repS ob σ Z w (V.renL r xs) cs→V.repS ob' σ' Z w xs cs
 | [],_,_,h=>h
 | x :: xs,cs,b,h=>by
  obtain⟨c1,c2,h1,h2,h3,h4,h5⟩:=h
  exact⟨c1,c2,h1,h2.trans (V.ren_sz r x),h3,V.unren x c1 (b.mono fun n hn=>List.mem_append_left _ hn) h4,V.unrenS xs c2 (b.mono fun n hn=>List.mem_append_right _ hn) h5⟩
end
theorem RepV.unren {v:Value} {x:V} (b:Back r ob ob' σ σ' x.names) (h:RepV ob σ Z w v (x.ren r)):RepV ob' σ' Z w v x:=by
 unfold RepV at *
 rw [V.ren_agg] at h
 by_cases hx:x.isAgg=true
 ·rw [if_pos hx] at h ⊢
  obtain⟨cs,h1,h2⟩:=h
  exact⟨cs,h1,V.unren x cs b h2⟩
 ·rw [if_neg hx] at h ⊢
  refine⟨V.unren x [v] b h.1,?_⟩
  rcases h.2 with h2 | h2
  ·exact .inl (by cases x<;>simp_all [V.ren])
  ·exact .inr h2
theorem RepVs.unren:∀ {vs:List Value} {xs:List V},Back r ob ob' σ σ' (V.namesL xs)→RepVs ob σ Z w vs (V.renL r xs)→RepVs ob' σ' Z w vs xs
 | [],[],_,_=>trivial
 | _ :: _,_ :: _,b,h=>⟨RepV.unren (b.mono fun _ hn=>List.mem_append_left _ hn) h.1,RepVs.unren (b.mono fun _ hn=>List.mem_append_right _ hn) h.2⟩
 | [],_ :: _,_,h=>h.elim
 | _ :: _,[],_,h=>h.elim
theorem RepT.unren {v:Value} {x:V} (b:Back r ob ob' σ σ' x.names) (h:RepT ob σ Z w v (x.ren r)):RepT ob' σ' Z w v x:=by
 cases x with
 | tup xs=>obtain⟨vs,h1,h2⟩:=h;exact⟨vs,h1,h2.unren b⟩
 | opt g x=>exact⟨fun e=>RepV.unren (r:=r) b (h.1 e),h.2⟩
 | _=>exact RepV.unren b h
theorem Ob.unren {n:Nat} {o:Ob} (b:Back r ob ob' σ σ' o.names) (hs:σ' n=σ (r n)) (h:(o.ren r).rep ob σ Z w (r n)):o.rep ob' σ' Z w n:=by
 cases o with
 | box t x =>
  obtain⟨k,cs,h1,h2,h3,h4,h5⟩:=h
  exact⟨k,cs,hs.trans h1,h2,h3,h4.trans (V.ren_sz r x),V.unren x _ b h5⟩
 | row e sz es =>
  obtain⟨h0,h00,v,xs,h1,h2,h3,h4⟩:=h
  exact⟨h0,h00,v,xs,h1,h2,h3.trans hs.symm,fun hn=>h4 (hs.symm.trans hn)⟩
 | blk sp =>
  obtain⟨k,h1,h2⟩:=h
  exact⟨k,hs.trans h1,h2⟩
 | know k=>exact⟨hs.trans h.1,h.2⟩
 | reg r=>exact fun b hb=>h b (hs.symm.trans hb)
end
structure Fore (r:Nat→Nat) (ob ob':Obs) (σ σ':Nat→Option Nat):Prop where
 us:∀ n,used ob n→used ob' (r n)
 lv:∀ n,used ob n→live ob' (r n)→live ob n∧σ' (r n)=σ n
section
variable {r:Nat→Nat} {ob ob':Obs} {σ σ':Nat→Option Nat} {Z:Nat→Prop} {w:World}
mutual
theorem V.doren (b:Fore r ob ob' σ σ'):∀ (x:V) (cs:List Value),V.rep ob σ Z w x cs→V.rep ob' σ' Z w (x.ren r) cs
 | .junk,_,h=>h
 | .d _,_,h=>h
 | .nils,_,h=>h
 | .dptr _,_,h=>h
 | .ptr n off p,cs,h=>⟨b.us n h.1,fun hl=>by
   obtain⟨l,e⟩:=b.lv n h.1 hl
   obtain⟨k,h1,h2⟩:=h.2 l
   exact⟨k,e.trans h1,h2⟩⟩
 | .full ..,_,h=>h
 | .mref n,cs,h=>⟨b.us n h.1,fun hl=>by
   obtain⟨l,e⟩:=b.lv n h.1 hl
   obtain⟨k,h1,h2⟩:=h.2 l
   exact⟨k,e.trans h1,h2⟩⟩
 | .sref n sz off len,cs,h=>⟨b.us n h.1,fun hl=>by
   obtain⟨l,e⟩:=b.lv n h.1 hl
   obtain⟨a,c,h1,h2,h3,h4⟩:=h.2 l
   exact⟨a,c,h1,h2,h3,by rw [e];exact h4⟩⟩
 | .func f caps,cs,h=>by
  obtain⟨cvs,h1,h2⟩:=h
  exact⟨cvs,h1,V.dorenL b caps cvs h2⟩
 | .st fs,cs,h=>V.dorenS b fs cs h
 | .tup _,_,h=>h.elim
 | .opt ..,_,h=>h.elim
theorem V.dorenL (b:Fore r ob ob' σ σ'):∀ (xs:List V) (cs:List Value),V.repL ob σ Z w xs cs→V.repL ob' σ' Z w (V.renL r xs) cs
 | [],_,h=>h
 | x :: xs,cs,h=>by
  obtain⟨c,rest,h1,h0,h2,h3⟩:=h
  exact⟨c,rest,h1,h0,V.doren b x [c] h2,V.dorenL b xs rest h3⟩
theorem V.dorenS (b:Fore r ob ob' σ σ'):∀ (xs:List V) (cs:List Value),V.repS ob σ Z w xs cs→V.repS ob' σ' Z w (V.renL r xs) cs
 | [],_,h=>h
 | x :: xs,cs,h=>by
  obtain⟨c1,c2,h1,h2,h3,h4,h5⟩:=h
  exact⟨c1,c2,h1,h2.trans (V.ren_sz r x).symm,h3,V.doren b x c1 h4,V.dorenS b xs c2 h5⟩
end
theorem RepV.doren (b:Fore r ob ob' σ σ') {v:Value} {x:V} (h:RepV ob σ Z w v x):RepV ob' σ' Z w v (x.ren r):=by
 unfold RepV at *
 rw [V.ren_agg]
 by_cases hx:x.isAgg=true
 ·rw [if_pos hx] at h ⊢
  obtain⟨cs,h1,h2⟩:=h
  exact⟨cs,h1,V.doren b x cs h2⟩
 ·rw [if_neg hx] at h ⊢
  refine⟨V.doren b x [v] h.1,?_⟩
  rcases h.2 with h2 | h2
  ·exact .inl (by subst h2;rfl)
  ·exact .inr h2
theorem RepVs.doren (b:Fore r ob ob' σ σ'):∀ {vs:List Value} {xs:List V},RepVs ob σ Z w vs xs→RepVs ob' σ' Z w vs (V.renL r xs)
 | [],[],_=>trivial
 | _ :: _,_ :: _,h=>⟨h.1.doren b,RepVs.doren b h.2⟩
 | [],_ :: _,h=>h.elim
 | _ :: _,[],h=>h.elim
theorem RepT.doren (b:Fore r ob ob' σ σ') {v:Value} {x:V} (h:RepT ob σ Z w v x):RepT ob' σ' Z w v (x.ren r):=by
 cases x with
 | tup xs=>obtain⟨vs,h1,h2⟩:=h;exact⟨vs,h1,h2.doren b⟩
 | opt g x=>exact⟨fun e=>RepV.doren b (h.1 e),h.2⟩
 | _=>exact RepV.doren b h
theorem Ob.doren (b:Fore r ob ob' σ σ') {n:Nat} {o:Ob} (hs:σ' (r n)=σ n) (h:o.rep ob σ Z w n):(o.ren r).rep ob' σ' Z w (r n):=by
 cases o with
 | box t x =>
  obtain⟨k,cs,h1,h2,h3,h4,h5⟩:=h
  exact⟨k,cs,hs.trans h1,h2,h3,h4.trans (V.ren_sz r x).symm,V.doren b x _ h5⟩
 | row e sz es =>
  obtain⟨h0,h00,v,xs,h1,h2,h3,h4⟩:=h
  exact⟨h0,h00,v,xs,h1,h2,h3.trans hs.symm,fun hn=>h4 (hs.symm.trans hn)⟩
 | blk sp =>
  obtain⟨k,h1,h2⟩:=h
  exact⟨k,hs.trans h1,h2⟩
 | know k=>exact⟨hs.trans h.1,h.2⟩
 | reg r=>exact fun b hb=>h b (hs.symm.trans hb)
end
abbrev EL:=List (Nat×V)
abbrev OL:=List (Nat×Option Ob)
def rnm (R:List (Nat×Nat)) (n:Nat):Nat:=match look R n with | some m=>m | none=>n
def memB (n:Nat):List Nat→Bool
 | []=>false
 | m :: l=>Nat.beq m n || memB n l
theorem A0a {n:Nat}:∀ {l:List Nat},memB n l=true→n∈l
 | [],h=>by simp [memB] at h
 | m :: l,h=>by
  simp only [memB,Bool.or_eq_true] at h
  rcases h with h | h
  ·rw [Nat.eq_of_beq_eq_true h];exact List.mem_cons_self ..
  ·exact List.mem_cons_of_mem _ (A0a h)
theorem P2 {α:Type} {k:Nat}:∀ {l:List (Nat×α)},k∈keys l→look l k≠none
 | [],h=>by simp [keys] at h
 | (j,x) :: l,h=>by
  rw [F0]
  by_cases hj:j=k
  ·simp [hj]
  ·rw [if_neg hj]
   simp only [keys,List.map_cons,List.mem_cons] at h
   rcases h with h | h
   ·exact absurd h.symm hj
   ·exact P2 h
def okPat (R:List (Nat×Nat)) (E':EL) (O':OL):Bool :=
 (E'.all fun p=>p.2.names.all fun n=>memB n (keys O')) &&
 (O'.all fun p=>match p.2 with | some o=>o.names.all fun n=>memB n (keys O') | none=>true) &&
 (O'.all fun p=>O'.all fun q=>match p.2,q.2 with | some _,some _ => !Nat.beq (rnm R p.1) (rnm R q.1) || Nat.beq p.1 q.1 | _,_=>true) &&
 (O'.all fun p=>match p.2 with | some _=>Nat.ble 1000 p.1 || Nat.beq (rnm R p.1) p.1 | none=>true)
def patE (E':EL) (E:EL):List (Option V):=E'.map fun p=>look E p.1
def patE' (R:List (Nat×Nat)) (E':EL):List (Option V):=E'.map fun p=>some (p.2.ren (rnm R))
def patO (R:List (Nat×Nat)) (O':OL) (O:OL):List (Option (Option Ob)):=O'.map fun p=>match p.2 with | some _=>look O (rnm R p.1) | none=>none
def patO' (R:List (Nat×Nat)) (O':OL):List (Option (Option Ob)):=O'.map fun p=>match p.2 with | some o=>some (some (o.ren (rnm R))) | none=>none
theorem Q1 {α β:Type} {f g:α→β} {l:List α} (h:l.map f=l.map g):∀ x∈l,f x=g x:=by
 induction l with
 | nil=>simp
 | cons a l ih =>
  simp only [List.map_cons,List.cons.injEq] at h
  intro x hx
  rcases List.mem_cons.1 hx with hx | hx
  ·subst hx;exact h.1
  ·exact ih h.2 x hx
theorem Sim.pat {E E':EL} {O O':OL} {a:Act} {w:World} {σ:Nat→Option Nat} {Z:Nat→Prop} (hB:B.ok) (R:List (Nat×Nat)) (hok:okPat R E' O'=true) (hE:patE E' E=patE' R E') (hO:patO R O' O=patO' R O')
  (s:Sim B (look E) (look O) a w σ Z):Sim B (look E') (look O') a w (fun n=>σ (rnm R n)) Z:=by
 simp only [okPat,Bool.and_eq_true,List.all_eq_true] at hok
 obtain⟨⟨⟨k1,k2⟩,k3⟩,k4⟩:=hok
 have hE':=Q1 hE
 have hO':=Q1 hO
 have lvs:∀ n o,look O' n=some (some o)→look O (rnm R n)=some (some (o.ren (rnm R))):=fun n o h=>by
  have:=hO' (n,some o) (I7 h)
  simpa using this
 have back:∀ ns:List Nat,(∀ n∈ns,memB n (keys O')=true)→Back (rnm R) (look O) (look O') σ (fun n=>σ (rnm R n)) ns:=fun ns h =>
  ⟨fun n hn=>P2 (A0a (h n hn)),fun n _ hl=>by
   obtain⟨o,ho⟩:=hl
   exact⟨⟨_,lvs n o ho⟩,rfl⟩⟩
 refine { s with env:=?_,obj:=?_,inj:=?_,blk:=?_,pin:=?_,shp:=?_,foot:=?_ }
 ·intro k x hk
  have hm:=I7 hk
  have he:=hE' (k,x) hm
  obtain⟨v,h1,h2⟩:=s.env k _ he
  exact⟨v,h1,h2.unren (back _ (fun n hn=>k1 (k,x) hm n hn))⟩
 ·intro n o hn
  have hm:=I7 hn
  have hb:=k2 (n,some o) hm
  simp only [List.all_eq_true] at hb
  exact Ob.unren (back _ hb) rfl (s.obj _ _ (lvs n o hn))
 ·intro p q b hp hq hpb hqb
  obtain⟨o,ho⟩:=hp
  obtain⟨o',ho'⟩:=hq
  have:=s.inj _ _ b ⟨_,lvs p o ho⟩ ⟨_,lvs q o' ho'⟩ hpb hqb
  have h3:=k3 (p,some o) (I7 ho) (q,some o') (I7 ho')
  simp only [this,Bool.or_eq_true] at h3
  rcases h3 with h3 | h3
  ·simp at h3
  ·exact Nat.eq_of_beq_eq_true h3
 ·intro n b hl hb
  obtain⟨o,ho⟩:=hl
  exact s.blk _ b ⟨_,lvs n o ho⟩ hb
 ·intro n b hp hl
  obtain⟨o,ho⟩:=hl
  have h4:=k4 (n,some o) (I7 ho)
  have hlt:=hB n b hp
  simp only [Bool.or_eq_true] at h4
  have:rnm R n=n:=by
   rcases h4 with h4 | h4
   ·have:=Nat.le_of_ble_eq_true h4;omega
   ·exact Nat.eq_of_beq_eq_true h4
  show σ (rnm R n)=b
  rw [this]
  exact s.pin n b hp ⟨_,by have:=lvs n o ho;rwa [‹rnm R n=n›] at this⟩
 ·intro n b hp hl
  obtain⟨o,ho⟩:=hl
  have h4:=k4 (n,some o) (I7 ho)
  have hlt:=hB n b hp
  simp only [Bool.or_eq_true] at h4
  have:rnm R n=n:=by
   rcases h4 with h4 | h4
   ·have:=Nat.le_of_ble_eq_true h4;omega
   ·exact Nat.eq_of_beq_eq_true h4
  exact s.shp n b hp ⟨_,by have:=lvs n o ho;rwa [‹rnm R n=n›] at this⟩
 ·obtain⟨Y,h1,h2⟩:=s.foot
  have hrg:∀ n,isReg (look O') n→isReg (look O) (rnm R n):=fun n ⟨r,hr⟩=>⟨r,lvs n _ hr⟩
  refine⟨fun n=>Y (rnm R n),fun n r hn=>h1 _ _ (lvs n _ hn),fun n b hn hy => ?_⟩
  obtain⟨g1,g2,g3,g4,g5⟩:=h2 _ b (hrg n hn) hy
  refine⟨g1,g2,g3,fun m ⟨o,ho⟩=>g4 _ ⟨_,lvs m o ho⟩,fun m hm hmy => ?_⟩
  have e:=g5 _ (hrg m hm) hmy
  obtain⟨r,hr⟩:=hn
  obtain⟨r',hr'⟩:=hm
  have h3:=k3 (m,some (.reg r')) (I7 hr') (n,some (.reg r)) (I7 hr)
  simp only [e,Bool.or_eq_true] at h3
  rcases h3 with h3 | h3
  ·simp at h3
  ·exact Nat.eq_of_beq_eq_true h3
theorem Foot.settle {lo:Nat} {own:Nat→Prop} {ob:Obs} {w:World} {σ:Nat→Option Nat} {Z:Nat→Prop} (F:Foot lo own ob σ Z w) {n b:Nat} (hl:live ob n) (hb:σ n=some b):Foot lo own (updO ob n none) σ (fun q=>Z q∨q=b) w:=by
 refine F.move ⟨fun _ h => .inl h,fun _ _=>rfl⟩ (Nat.le_refl _) (fun m r h=>⟨?_,rfl⟩) (fun _ _ _ _=>rfl) (fun _ _ _ _=>rfl) (fun q h => ?_) fun m q hm hq => .inr ⟨m,?_,hq⟩
 ·unfold updO at h
  by_cases e:m=n
  ·rw [if_pos e] at h;simp at h
  ·rwa [if_neg e] at h
 ·rcases h with h | h
  ·exact .inl h
  ·subst h;exact .inr (.inr ⟨n,hl,hb⟩)
 ·rw [D6] at hm
  by_cases e:m=n
  ·rw [if_pos e] at hm;simp at hm
  ·rwa [if_neg e] at hm
theorem Sim.freeze {env:Env} {ob:Obs} {a:Act} {w:World} {σ:Nat→Option Nat} {Z:Nat→Prop} (s:Sim B env ob a w σ Z) {n e sz:Nat} {es:List D} (hn:ob n=some (some (.row e sz es))) {k off len:Nat} (hk:env k=some (.sref n sz off len)) (hle:off+len≤es.length) :
  ∃ Z',Sim B (upd env k (.d (.list sz ((es.drop off).take len)))) (updO ob n none) a w σ Z':=by
 have hl:live ob n:=⟨_,hn⟩
 have sk:=s.kill n
 have hro:=s.obj n _ hn
 obtain⟨v,hv,hr⟩:=s.env k _ hk
 obtain⟨ad,c,hvv,hc1,hc2,hd⟩:=A4p hr hl
 have put:∀ (Z':Nat→Prop),Sim B env (updO ob n none) a w σ Z'→RepT (updO ob n none) σ Z' w v (.d (.list sz ((es.drop off).take len))) →
   Sim B (upd env k (.d (.list sz ((es.drop off).take len)))) (updO ob n none) a w σ Z':=by
  intro Z' s' hr'
  refine { s' with env:=fun j y hj => ?_ }
  unfold upd at hj
  by_cases he:j=k
  ·rw [if_pos he] at hj;cases hj;subst he;exact⟨v,hv,hr'⟩
  ·rw [if_neg he] at hj;exact s'.env j y hj
 have hlen:((es.drop off).take len).length=len:=by simp;omega
 rcases hd with ⟨k1,k2,k3,k4⟩ | ⟨b,e',hb,ha,hsh,h0⟩
 ·have hnil:len=0:=by omega
  subst hnil
  refine⟨Z,put Z sk ⟨⟨ad,c,by simp [hvv],by simp,hc2,.inl (by simp)⟩,.inr (by rw [hvv];rfl)⟩⟩
 ·obtain⟨cur,cap,xs,m1,m2,m3,m4,m5,m6,m7⟩:=Ob.row_cells hro hb
  obtain⟨hz,hbb⟩:=s.blk n b hl hb
  have hblt:=s.lt hl hb
  have s1:Sim B env (updO ob n none) a w σ (fun q=>Z q∨q=b):=by
   have hlv:∀ m,live (updO ob n none) m→m≠n∧live ob m:=fun m hm=>by
    rw [D6] at hm
    by_cases hmn:m=n
    ·rw [if_pos hmn] at hm;simp at hm
    ·rw [if_neg hmn] at hm;exact⟨hmn,hm⟩
   have m:Move (updO ob n none) (updO ob n none) σ σ Z (fun q=>Z q∨q=b) w w:=⟨⟨fun _ h => .inl h,fun _ _=>rfl⟩,fun _ h=>h,fun _ _ h=>⟨h,rfl⟩,fun _ _ _ _ _=>rfl⟩
   refine { sk with env:=?_,obj:=?_,blk:=?_,zlt:=?_,zsub:=fun q h => .inl (sk.zsub q h),znew:=?_,foot:=s.foot.settle hl hb }
   ·intro j x hj
    obtain⟨u,h1,h2⟩:=sk.env j x hj
    exact⟨u,h1,h2.move m⟩
   ·intro q o hq
    exact Ob.rep_move m (sk.obj q o hq) rfl (fun _ _=>rfl)
   ·intro p q hp hq
    obtain⟨g1,g2⟩:=sk.blk p q hp hq
    refine⟨fun h => ?_,g2⟩
    rcases h with h | h
    ·exact g1 h
    ·subst h
     exact(hlv p hp).1 (s.inj p n q (hlv p hp).2 hl hq hb)
   ·intro q h
    rcases h with h | h
    ·exact sk.zlt q h
    ·subst h;exact hblt
   ·intro q h
    rcases h with h | h
    ·exact sk.znew q h
    ·subst h;exact .inr hbb
  refine⟨_,put _ s1 ⟨⟨ad,c,by rw [hvv,hlen],by rw [hlen];exact hc1,hc2,?_⟩,.inr (by rw [hvv];rfl)⟩⟩
  by_cases hc0:c=0
  ·left
   have hl0:len=0:=by omega
   subst hl0
   simp
  ·right
   have hext:Ext Z (fun q=>Z q∨q=b) w w:=⟨fun _ h => .inl h,fun _ _=>rfl⟩
   have hat:cellsAt w b 0 xs:=fun j u hj=>by
    rw [Nat.zero_add,cell_of_row w b j cur e (0,0) m1]
    rw [← m7,List.getElem?_take] at hj
    split at hj
    ·simpa using hj
    ·cases hj
   have hE:=D.repE_of_repL es b 0 xs (D.repL_ext hext es xs m5) hro.2.1 hat
   have hE2:=D.repE_take _ b (0+off*sz) len (D.repE_drop es b 0 off hE)
   rw [Nat.zero_add] at hE2
   refine⟨b,off*sz,?_,.inr rfl,fun q hq=>hro.2.1 q (List.mem_of_mem_drop (List.mem_of_mem_take hq)),hE2⟩
   exact ha.resolve_left hc0
end Go.Vc
