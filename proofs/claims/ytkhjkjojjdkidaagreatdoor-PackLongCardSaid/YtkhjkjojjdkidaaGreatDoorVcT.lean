/- Parts of values turned in place: rows inside structs and variables; rows of one's own begun, settled. -/
import Derived.Test.YtkhjkjojjdkidaaGreatDoorVcS
namespace Go.Vc
open Go
variable {P:Program} {B:Base} {ops:Array Oper}
mutual
inductive Tw (L:V→V→Prop):V→V→Prop
 | leaf {x y:V}:L x y→Tw L x y
 | same (x:V):Tw L x x
 | st {fs gs:List V}:TwL L fs gs→Tw L (.st fs) (.st gs)
inductive TwL (L:V→V→Prop):List V→List V→Prop
 | nil:TwL L [] []
 | cons {f g:V} {fs gs:List V}:Tw L f g→TwL L fs gs→TwL L (f :: fs) (g :: gs)
end
structure LeafOk (L:V→V→Prop) (ob ob':Obs) (σ σ':Nat→Option Nat) (Z Z':Nat→Prop) (w w':World):Prop where
 agg:∀ x y,L x y→x.isAgg=y.isAgg∧x.sz=y.sz∧x ≠ .junk∧y.isTop=false∧x.isTop=false
 rep:∀ x y,L x y→∀ cs,V.rep ob σ Z w x cs→V.rep ob' σ' Z' w' y cs
section
variable {L:V→V→Prop} {ob ob':Obs} {σ σ':Nat→Option Nat} {Z Z':Nat→Prop} {w w':World}
mutual
theorem Tw.sz (h:LeafOk L ob ob' σ σ' Z Z' w w'):∀ {x y:V},Tw L x y→x.sz=y.sz
 | _,_,.leaf hl=>(h.agg _ _ hl).2.1
 | _,_,.same _=>rfl
 | _,_,.st hs=>TwL.sz h hs
theorem TwL.sz (h:LeafOk L ob ob' σ σ' Z Z' w w'):∀ {xs ys:List V},TwL L xs ys→V.szL xs=V.szL ys
 | _,_,.nil=>rfl
 | _,_,.cons h1 h2=>by simp only [V.szL,Tw.sz h h1,TwL.sz h h2]
end
theorem Tw.agg (h:LeafOk L ob ob' σ σ' Z Z' w w'):∀ {x y:V},Tw L x y→x.isAgg=y.isAgg
 | _,_,.leaf hl=>(h.agg _ _ hl).1
 | _,_,.same _=>rfl
 | _,_,.st _=>rfl
theorem Tw.top (h:LeafOk L ob ob' σ σ' Z Z' w w'):∀ {x y:V},Tw L x y→x=y∨(x.isTop=false∧y.isTop=false∧x ≠ .junk)
 | _,_,.leaf hl => .inr ⟨(h.agg _ _ hl).2.2.2.2,(h.agg _ _ hl).2.2.2.1,(h.agg _ _ hl).2.2.1⟩
 | _,_,.same _ => .inl rfl
 | _,_,.st _ => .inr ⟨rfl,rfl,by simp⟩
mutual
theorem Tw.rep (h:LeafOk L ob ob' σ σ' Z Z' w w') (m:Move ob ob' σ σ' Z Z' w w'):∀ {x y:V} {cs:List Value},Tw L x y→V.rep ob σ Z w x cs→V.rep ob' σ' Z' w' y cs
 | _,_,_,.leaf hl,hr=>h.rep _ _ hl _ hr
 | _,_,_,.same x,hr=>V.rep_move m x _ hr
 | _,_,_,.st hs,hr=>TwL.rep h m hs hr
theorem TwL.rep (h:LeafOk L ob ob' σ σ' Z Z' w w') (m:Move ob ob' σ σ' Z Z' w w'):∀ {xs ys:List V} {cs:List Value},TwL L xs ys→V.repS ob σ Z w xs cs→V.repS ob' σ' Z' w' ys cs
 | _,_,_,.nil,hr=>hr
 | _,_,_,.cons h1 h2,hr=>by
  obtain⟨c1,c2,e,g1,g2,g3,g4⟩:=hr
  exact⟨c1,c2,e,g1.trans (Tw.sz h h1),g2,Tw.rep h m h1 g3,TwL.rep h m h2 g4⟩
end
theorem Tw.repT (h:LeafOk L ob ob' σ σ' Z Z' w w') (m:Move ob ob' σ σ' Z Z' w w') {x y:V} {v:Value} (ht:Tw L x y) (hr:RepT ob σ Z w v x):RepT ob' σ' Z' w' v y:=by
 rcases ht.top h with e | ⟨h1,h2,h3⟩
 ·subst e;exact hr.move m
 ·have hv:=hr.to h1
  refine RepT.of ?_ h2
  unfold RepV at hv ⊢
  rw [← ht.agg h]
  by_cases hx:x.isAgg=true
  ·rw [if_pos hx] at hv ⊢
   obtain⟨cs,g1,g2⟩:=hv
   exact⟨cs,g1,ht.rep h m g2⟩
  ·rw [if_neg hx] at hv ⊢
   refine⟨ht.rep h m hv.1,.inr ?_⟩
   rcases hv.2 with g | g
   ·exact absurd g h3
   ·exact g
end
inductive TwT (L:V→V→Prop) (E:EL):EL→Prop
 | nil:TwT L E []
 | cons {k:Nat} {x y:V} {ts:EL}:look E k=some x→Tw L x y→TwT L E ts→TwT L E ((k,y) :: ts)
inductive TwB (L:V→V→Prop) (O:OL):OL→Prop
 | nil:TwB L O []
 | cons {m:Nat} {t:TypeId} {x y:V} {bs:OL}:look O m=some (some (.box t x))→Tw L x y→TwB L O bs→TwB L O ((m,some (.box t y)) :: bs)
theorem TwT.get {L:V→V→Prop} {E:EL}:∀ {ts:EL},TwT L E ts→∀ {k:Nat} {y:V},look ts k=some y→∃ x,look E k=some x∧Tw L x y
 | _,.nil,_,_,h=>by simp [look] at h
 | _,.cons h1 h2 h3,k,y,h=>by
  rw [F0] at h
  split at h
  ·rename_i e;subst e;cases h;exact⟨_,h1,h2⟩
  ·exact h3.get h
theorem TwB.get {L:V→V→Prop} {O:OL}:∀ {bs:OL},TwB L O bs→∀ {m:Nat} {o:Option Ob},look bs m=some o→∃ t x y,look O m=some (some (.box t x))∧o=some (.box t y)∧Tw L x y
 | _,.nil,_,_,h=>by simp [look] at h
 | _,.cons h1 h2 h3,m,o,h=>by
  rw [F0] at h
  split at h
  ·rename_i e;subst e;cases h;exact⟨_,_,_,h1,rfl,h2⟩
  ·exact h3.get h
theorem Sim.turn {E Ts:EL} {O0 O1 Bs:OL} {a:Act} {w:World} {σ0 σ:Nat→Option Nat} {Z0 Z:Nat→Prop} {L:V→V→Prop} (s0:Sim B (look E) (look O0) a w σ0 Z0) (s:Sim B (look E) (look O1) a w σ Z) (m:Move (look O0) (look O1) σ0 σ Z0 Z w w)
  (hL:LeafOk L (look O0) (look O1) σ0 σ Z0 Z w w) (hO:∀ q t x,look O1 q=some (some (.box t x))→look O0 q=some (some (.box t x))∧σ q=σ0 q) (hT:TwT L E Ts) (hB:TwB L O1 Bs):Sim B (look (Ts++E)) (look (Bs++O1)) a w σ Z:=by
 have hlv:∀ n,live (look (Bs++O1)) n↔live (look O1) n:=fun n=>by
  unfold live
  rw [V6]
  cases hb:look Bs n with
  | none=>rfl
  | some o =>
   obtain⟨t,x,y,h1,h2,_⟩:=hB.get hb
   subst h2
   exact⟨fun _=>⟨_,h1⟩,fun _=>⟨_,rfl⟩⟩
 have hus:∀ n,used (look O1) n→used (look (Bs++O1)) n:=fun n h=>by
  unfold used at *
  rw [V6]
  cases hb:look Bs n with
  | none=>exact h
  | some o=>simp
 have m2:Move (look O1) (look (Bs++O1)) σ σ Z Z w w:=⟨Ext.refl _ _,hus,fun n _ h=>⟨(hlv n).1 h,rfl⟩,fun _ _ _ _ _=>rfl⟩
 refine { s with env:=?_,obj:=?_,inj:=fun p q k hp hq=>s.inj p q k ((hlv p).1 hp) ((hlv q).1 hq),blk:=fun p k hp=>s.blk p k ((hlv p).1 hp),pin:=fun p k hpin hp=>s.pin p k hpin ((hlv p).1 hp),shp:=fun p k hpin hp=>s.shp p k hpin ((hlv p).1 hp),foot:=?_ }
 ·intro k y hk
  rw [V6] at hk
  cases ht:look Ts k with
  | none =>
   rw [ht] at hk
   obtain⟨v,h1,h2⟩:=s.env k y hk
   exact⟨v,h1,h2.move m2⟩
  | some z =>
   rw [ht] at hk
   cases hk
   obtain⟨x,hx,htw⟩:=hT.get ht
   obtain⟨v,h1,h2⟩:=s0.env k x hx
   exact⟨v,h1,(htw.repT hL m h2).move m2⟩
 ·intro n o hn
  rw [V6] at hn
  cases hb:look Bs n with
  | none =>
   rw [hb] at hn
   exact Ob.rep_move m2 (s.obj n o hn) rfl (fun _ _=>rfl)
  | some q =>
   rw [hb] at hn
   cases hn
   obtain⟨t,x,y,h1,h2,htw⟩:=hB.get hb
   cases h2
   obtain⟨g1,g2⟩:=hO n t x h1
   obtain⟨b,cs,k1,k2,k3,k4,k5⟩:=s0.obj n _ g1
   exact⟨b,cs,g2.trans k1,k2,k3,k4.trans (htw.sz hL),V.rep_move m2 y _ (htw.rep hL m k5)⟩
 ·refine s.foot.move (Ext.refl _ _) (Nat.le_refl _) (fun q r h=>⟨?_,rfl⟩) (fun _ _ _ _=>rfl) (fun _ _ _ _=>rfl) (fun _ h => .inl h) fun q b h hb => .inr ⟨q,(hlv q).1 h,hb⟩
  rw [V6] at h
  cases hb:look Bs q with
  | none=>rw [hb] at h;exact h
  | some o =>
   obtain⟨t,x,y,_,h2,_⟩:=hB.get hb
   rw [hb,h2] at h
   simp at h
-- a row begun
def BegL (n sz:Nat) (x y:V):Prop:=x = .nils∧y = .sref n sz 0 0
theorem Mat.beginP {E Ts:EL} {O Bs:OL} {n e sz:Nat} (hB:B.ok) (hsz:0<sz) (hn:look O n=none) (h1000:1000≤n) (hT:TwT (BegL n sz) E Ts) (hBs:TwB (BegL n sz) ((n,some (.row e sz [])) :: O) Bs) :
  Mat B E O (Ts++E) (Bs++(n,some (.row e sz [])) :: O):=fun a w σ Z s=>by
 have s2:=s.rowNew0 hB (nm:=n) hn h1000 (g':=none) (World.grownBy.refl w _) (.inl rfl)
  (o:=.row e sz []) fun ob' σ' m hσ=>⟨hsz,(fun _ h=>by cases h),.slice none 0 0,[],World.ownsRow_nil w 0 e sz,rfl,hσ.symm,fun _=>rfl⟩
 rw [← A2j] at s2
 refine⟨_,_,s2.turn s2 (Move.refl _ _ _ _) ⟨?_,?_⟩ (fun q t x h=>⟨h,rfl⟩) hT hBs⟩
 ·rintro x y ⟨rfl,rfl⟩;exact⟨rfl,rfl,by simp,rfl,rfl⟩
 ·rintro x y ⟨rfl,rfl⟩ cs hr
  have hc:cs=[.slice none 0 0]:=hr
  subst hc
  refine⟨by unfold used;rw [F0];simp,fun _=>⟨none,0,rfl,Nat.le_refl _,by omega,.inl ⟨by simp [updS],rfl,rfl,rfl⟩⟩⟩
-- read as data
def CoLf (x y:V):Prop:=∃ d,Co x d∧y = .d d
theorem B17 {x:V} {d:D} (h:Co x d):x ≠ .junk:=by cases h<;>simp
mutual
theorem Co.sz:∀ {x:V} {y:D},Co x y→x.sz=y.sz
 | _,_,.d _=>rfl
 | _,_,.nils _=>rfl
 | _,_,.st h=>CoL.sz h
theorem CoL.sz:∀ {xs:List V} {ys:List D},CoL xs ys→V.szL xs=D.szL ys
 | _,_,.nil=>rfl
 | _,_,.cons h1 h2=>by simp only [V.szL,D.szL,Co.sz h1,CoL.sz h2]
end
theorem Mat.coeP {E Ts:EL} {O Bs:OL} (hT:TwT CoLf E Ts) (hBs:TwB CoLf O Bs):Mat B E O (Ts++E) (Bs++O):=fun a w σ Z s=>by
 refine⟨_,_,s.turn s (Move.refl _ _ _ _) ⟨?_,?_⟩ (fun q t x h=>⟨h,rfl⟩) hT hBs⟩
 ·rintro x y ⟨d,hc,rfl⟩;exact⟨hc.agg,hc.sz,B17 hc,rfl,hc.notTup⟩
 ·rintro x y ⟨d,hc,rfl⟩ cs hr;exact hc.rep hr
-- another name of a length
def LenL (x y:V):Prop:=∃ n sz off l l',x = .sref n sz off l∧y = .sref n sz off l'∧l=l'
theorem Mat.lenP {E Ts:EL} {O Bs:OL} (hT:TwT LenL E Ts) (hBs:TwB LenL O Bs):Mat B E O (Ts++E) (Bs++O):=fun a w σ Z s=>by
 refine⟨_,_,s.turn s (Move.refl _ _ _ _) ⟨?_,?_⟩ (fun q t x h=>⟨h,rfl⟩) hT hBs⟩
 ·rintro x y ⟨n,sz,off,l,l',rfl,rfl,rfl⟩;exact⟨rfl,rfl,by simp,rfl,rfl⟩
 ·rintro x y ⟨n,sz,off,l,l',rfl,rfl,rfl⟩ cs hr;exact hr
-- a row settled, wherever it is named
def FrzL (n sz:Nat) (es:List D) (x y:V):Prop:=∃ off len fs,x = .sref n sz off len∧y = .d (.list sz fs)∧off+len≤es.length∧fs=(es.drop off).take len
theorem FrzL.all {n sz:Nat} {es:List D} {len:Nat} (h:len=es.length):Tw (FrzL n sz es) (.sref n sz 0 len) (.d (.list sz es)):=.leaf ⟨0,len,es,rfl,rfl,by omega,by subst h;simp⟩
theorem FrzL.cut {n sz:Nat} {es fs:List D} {off len:Nat} (h:off+len≤es.length) (e:fs=(es.drop off).take len):Tw (FrzL n sz es) (.sref n sz off len) (.d (.list sz fs)):=.leaf ⟨off,len,fs,rfl,rfl,h,e⟩
theorem Sim.settle {env:Env} {ob:Obs} {a:Act} {w:World} {σ:Nat→Option Nat} {Z:Nat→Prop} (s:Sim B env ob a w σ Z) {n e sz:Nat} {es:List D} (hn:ob n=some (some (.row e sz es))) :
  ∃ Z',Sim B env (updO ob n none) a w σ Z'∧Move ob (updO ob n none) σ σ Z Z' w w∧∀ off len cs,V.rep ob σ Z w (.sref n sz off len) cs→off+len≤es.length→D.rep Z' w (.list sz ((es.drop off).take len)) cs:=by
 have hl:live ob n:=⟨_,hn⟩
 have sk:=s.kill n
 have hro:=s.obj n _ hn
 have hlv:∀ m,live (updO ob n none) m→m≠n∧live ob m:=fun m hm=>by
  rw [D6] at hm
  by_cases hmn:m=n
  ·rw [if_pos hmn] at hm;simp at hm
  ·rw [if_neg hmn] at hm;exact⟨hmn,hm⟩
 cases hσ:σ n with
 | none =>
  refine⟨Z,sk,⟨Ext.refl _ _,fun _ h=>A0i h,fun m _ h=>⟨(hlv m h).2,rfl⟩,fun _ _ _ _ _=>rfl⟩,fun off len cs hr hle => ?_⟩
  obtain⟨_,hr⟩:=hr
  obtain⟨ad,c,hc,h1,h2,h3⟩:=hr hl
  rcases h3 with ⟨_,k2,k3,k4⟩ | ⟨b,e',hb,_⟩
  ·have:len=0:=by omega
   subst this
   exact⟨ad,c,by simpa using hc,by simp,h2,.inl (by simp)⟩
  ·rw [hσ] at hb;cases hb
 | some b =>
  obtain⟨cur,cap,xs,m1,m2,m3,m4,m5,m6,m7⟩:=Ob.row_cells hro hσ
  obtain⟨hz,hbb⟩:=s.blk n b hl hσ
  have hblt:=s.lt hl hσ
  have mv:Move ob (updO ob n none) σ σ Z (fun q=>Z q∨q=b) w w:=⟨⟨fun _ h => .inl h,fun _ _=>rfl⟩,fun _ h=>A0i h,fun m _ h=>⟨(hlv m h).2,rfl⟩,fun _ _ _ _ _=>rfl⟩
  have s1:Sim B env (updO ob n none) a w σ (fun q=>Z q∨q=b):=by
   have m:Move (updO ob n none) (updO ob n none) σ σ Z (fun q=>Z q∨q=b) w w:=⟨⟨fun _ h => .inl h,fun _ _=>rfl⟩,fun _ h=>h,fun _ _ h=>⟨h,rfl⟩,fun _ _ _ _ _=>rfl⟩
   refine { sk with env:=?_,obj:=?_,blk:=?_,zlt:=?_,zsub:=fun q h => .inl (sk.zsub q h),znew:=?_,foot:=s.foot.settle hl hσ }
   ·intro j x hj
    obtain⟨u,h1,h2⟩:=sk.env j x hj
    exact⟨u,h1,h2.move m⟩
   ·intro q o hq
    exact Ob.rep_move m (sk.obj q o hq) rfl (fun _ _=>rfl)
   ·intro p q hp hq
    obtain⟨g1,g2⟩:=sk.blk p q hp hq
    refine⟨fun h => ?_,g2⟩
    rcases h with h | h
    ·exact g1 h
    ·subst h
     exact(hlv p hp).1 (s.inj p n q (hlv p hp).2 hl hq hσ)
   ·intro q h
    rcases h with h | h
    ·exact sk.zlt q h
    ·subst h;exact hblt
   ·intro q h
    rcases h with h | h
    ·exact sk.znew q h
    ·subst h;exact .inr hbb
  refine⟨_,s1,mv,fun off len cs hr hle => ?_⟩
  obtain⟨_,hr⟩:=hr
  obtain⟨ad,c,hc,h1,h2,h3⟩:=hr hl
  have hlen:((es.drop off).take len).length=len:=by simp;omega
  rcases h3 with ⟨k1,_⟩ | ⟨b',e',hb,ha,hsh,h0⟩
  ·rw [hσ] at k1;cases k1
  ·have:b'=b:=Option.some.inj (hb.symm.trans hσ)
   subst this
   refine⟨ad,c,by rw [hc,hlen],by rw [hlen];exact h1,h2,?_⟩
   by_cases hc0:c=0
   ·left
    have hl0:len=0:=by omega
    subst hl0
    simp
   ·right
    have hext:Ext Z (fun q=>Z q∨q=b') w w:=⟨fun _ h => .inl h,fun _ _=>rfl⟩
    have hat:cellsAt w b' 0 xs:=fun j u hj=>by
     rw [Nat.zero_add,cell_of_row w b' j cur e (0,0) m1]
     rw [← m7,List.getElem?_take] at hj
     split at hj
     ·simpa using hj
     ·cases hj
    have hE:=D.repE_of_repL es b' 0 xs (D.repL_ext hext es xs m5) hro.2.1 hat
    have hE2:=D.repE_take _ b' (0+off*sz) len (D.repE_drop es b' 0 off hE)
    rw [Nat.zero_add] at hE2
    exact⟨b',off*sz,ha.resolve_left hc0,.inr rfl,fun q hq=>hro.2.1 q (List.mem_of_mem_drop (List.mem_of_mem_take hq)),hE2⟩
theorem Mat.freezeP {E Ts:EL} {O Bs:OL} {n e sz:Nat} {es:List D} (hn:look O n=some (some (.row e sz es))) (hT:TwT (FrzL n sz es) E Ts) (hBs:TwB (FrzL n sz es) ((n,none) :: O) Bs) :
  Mat B E O (Ts++E) (Bs++(n,none) :: O):=fun a w σ Z s=>by
 obtain⟨Z',s1,mv,hl⟩:=s.settle hn
 rw [← A2j] at s1 mv
 refine⟨_,_,s.turn s1 mv ⟨?_,?_⟩ (fun q t x h=>⟨?_,rfl⟩) hT hBs⟩
 ·rintro x y ⟨off,len,fs,rfl,rfl,h1,h2⟩;exact⟨rfl,rfl,by simp,rfl,rfl⟩
 ·rintro x y ⟨off,len,fs,rfl,rfl,h1,h2⟩ cs hr
  subst h2
  exact hl off len cs hr h1
 ·rw [F0] at h
  split at h
  ·cases h
  ·exact h
end Go.Vc
