/- Part of the proof that 'TopFrames' holds of every input: no condition. -/
import Derived.Test.YtalojkjpjdcibaaGreatDoorXAC
import Derived.KernelRfl
import Derived.Sort.Grow
import Derived.Sort.Row
import Derived.Shelf.SlicesE.Clone
import Derived.Test.YtalojkjpjdcibaaGreatDoorXAB
import Derived.Lib.Bytealg
namespace Go.Vc
open Go
variable {P:Program} {B:D5} {ops:Array Oper}
@[reducible] def i6 (x:Int):V:=.d (.int .i64 x)
@[reducible] def bo (b:Bool):V:=.d (.bool b)
section
variable {d n:Nat} {ty:TypeId} {pos:String} {af:Array Edge} {nt nt':List (Nat×V)} {x y:Operand}
end
section
variable {d:Nat} {ty xt yt:TypeId} {pos:String} {af:Array Edge} {nt nt':List (Nat×V)} {x y:Operand} {m n:Int}
end
end Go.Vc
namespace Go.Vc
open Go
variable {P:Program} {B:D5} {E:EL} {O:OL} {Q:Exit->EL->OL->Prop} {ops:Array Oper}
def rE (E:EL):EL->List (Option V)
 | []=>[]
 | p :: l=>A1 E p.1 :: rE E l
def rE':EL->List (Option V)
 | []=>[]
 | p :: l=>some p.2 :: rE' l
def rO (O:OL):List (Nat×Ob)->List (Option (Option Ob))
 | []=>[]
 | p :: l=>A1 O p.1 :: rO O l
def rO':List (Nat×Ob)->List (Option (Option Ob))
 | []=>[]
 | p :: l=>some (some p.2) :: rO' l
def rF (O:OL):List Nat->List (Option (Option Ob))
 | []=>[]
 | n :: l=>A1 O n :: rF O l
def rF':List Nat->List (Option (Option Ob))
 | []=>[]
 | _ :: l=>none :: rF' l
def ap {α:Type}:List (Nat×α)->List (Nat×α)->List (Nat×α)
 | [],l=>l
 | x :: xs,l=>x :: ap xs l
theorem Cz {α:Type}:∀ (xs l:List (Nat×α)),ap xs l=xs++l
 | [],_=>rfl
 | x :: xs,l=>by rw [ap,Cz xs l];rfl
theorem Lo (E:EL):∀ l:EL,rE E l=l.map λp=>A1 E p.1
 | []=>rfl
 | p :: l=>by rw [rE,Lo E l];rfl
theorem Ey:∀ l:EL,rE' l=l.map λp=>some p.2
 | []=>rfl
 | p :: l=>by rw [rE',Ey l];rfl
theorem A6j (O:OL):∀ l:List (Nat×Ob),rO O l=l.map λp=>A1 O p.1
 | []=>rfl
 | p :: l=>by rw [rO,A6j O l];rfl
theorem Yg:∀ l:List (Nat×Ob),rO' l=l.map λp=>some (some p.2)
 | []=>rfl
 | p :: l=>by rw [rO',Yg l];rfl
theorem A6k (O:OL):∀ l:List Nat,rF O l=l.map λn=>A1 O n
 | []=>rfl
 | p :: l=>by rw [rF,A6k O l];rfl
theorem Yh:∀ l:List Nat,rF' l=l.map λ_=>none
 | []=>rfl
 | p :: l=>by rw [rF',Yh l];rfl
structure Sq (P:Program) (B:D5) (ops:Array Oper) (E:EL) (O:OL) (os:List Oper) (l:List Eff) (E':EL) (O':OL):Prop where
 js:Kh P B ops os l
 e:Nj l E=Fl l
 o:Nk l O=Fm l
 fe:A5z l E=E'
 fo:A60 l O=O'
theorem cn:Sq P B ops E O [] [] E O:=⟨.nil,rfl,rfl,rfl,rfl⟩
theorem cg {o:Oper} {os:List Oper} {α:Eff} {l:List Eff} {E':EL} {O':OL} (h:OpJ P B ops o α) (e:(rE E α.nt,rO O α.no,rF O α.nf)=(rE' α.nt,rO' α.no,rF' α.nf)) (k:Sq P B ops (ap α.wt E) (ap α.wo O) os l E' O'):Sq P B ops E O (o :: os) (α :: l) E' O':=by
 simp only [Prod.mk.injEq,Lo,Ey,A6j,Yg,A6k,Yh] at e;obtain⟨e1,e2,e3⟩:=e;obtain⟨k1,k2,k3,k4,k5⟩:=k;rw [Cz] at k2 k3 k4 k5;exact⟨.cons h k1,by simp only [Nj,Fl,e1,k2],by simp only [Nk,Fm,e2,e3,k3],k4,k5⟩
theorem rg {id:Nat} {l:List Oper} {effs:List Eff} {E':EL} {O':OL} (s:Sq P B l.toArray E O l effs E' O') (h:Q .normal E' O'):AWp P B (.region id l.toArray false) Q E O:=by
 obtain⟨k1,k2,k3,rfl,rfl⟩:=s;exact AWp.region k1 k2 k3 h
theorem dr {id:Nat} {l:List Oper} {effs:List Eff} {E':EL} {O':OL} (s:Sq P B l.toArray E O l effs E' O') (hm:P.follows .mixedOrders=true) (hc:Z7 l.toArray effs=true) (h:Q .normal E' O'):AWp P B (.region id l.toArray true) Q E O:=by
 obtain⟨k1,k2,k3,rfl,rfl⟩:=s;exact AWp.draws hm k1 hc k2 k3 h
theorem kp (E':EL) (O':OL) (hB:B.ok) (hE:rE E E'=rE' E') (hO:O'.map (λp=>A1 O p.1)=O'.map (λp=>some p.2)) (hok:Dl [] E' O'=true):Mat B E O E' O':=by
 have rid:∀ n,rnm [] n=n:=λ_=>rfl;rw [Lo,Ey] at hE;refine Mat.pat [] E' O' hB hok ?_ ?_
 ·unfold A9e Wu;rw [hE];refine List.map_congr_left λp _ => ?_;rw [V.ren_id rid]
 ·unfold A06 Ni;refine List.map_congr_left λp hp => ?_;have:=M7 hO p hp;obtain⟨k,o⟩:=p;cases o with
  | none=>rfl
  | some o =>
   simp only at this ⊢;rw [rid,this];cases o with
   | box t v=>show _=some (some (Ob.box t (v.ren (rnm []))));rw [V.ren_id rid]
   | row e sz es=>rfl
   | vrow e sz fs=>show _=some (some (Ob.vrow e sz (V.renL (rnm []) fs)));rw [V.renL_id rid]
   | blk s=>rfl
   | know k=>rfl
   | reg r=>rfl
theorem sr {id:Nat} {l:List Oper} {effs:List Eff} {E':EL} {O':OL} {c2:Code} (s:Sq P B l.toArray E O l effs E' O') (h:AWp P B c2 Q E' O'):AWp P B (.seq (.region id l.toArray false) c2) Q E O:=AWp.seq (rg s (B5b h))
theorem q (t:Nat) {v:V}:Opd (.tmp t) v [(t,v)]:=Opd.tmp t v
section
variable {d n:Nat} {ty:TypeId} {pos:String} {af:Array Edge}
end
end Go.Vc
namespace Go.Vc
open Go
variable {P:Program}
structure C2m (w w':World) (b:Nat):Prop where
 os:w'.os=w.os
 tape:w'.tape=w.tape
 output:w'.output=w.output
 size:w.heap.size<=w'.heap.size
 block:∀ k,k<w.heap.size->k≠b->w'.heap[k]? = w.heap[k]?
end Go.Vc
namespace Go.Vc
open Go Go.Shelf Go.RowKit Go.Lib Go.Proofs
variable {P:Program} {ρ:Ren}
structure C2n (P:Program) (f:FuncId) (e sz bytes:Nat):Prop where
 pos:0<sz
 full:∀ (b off n c:Nat) (news:List Value) (w:World),news.length=n*sz->n<=maxLen->n*bytes<=140737488355328->(∀ j u,news[j]? = some u->w.cell? ⟨b,off+j,none⟩=some u)->(∀ u∈news,u.oneCell'=true) ->
  Calls P f #[.slice (some ⟨b,off,none⟩) n c] w λex w'=>∃ v',ex = .returned v'∧w'.ownsRow w.heap.size e sz v' n news∧Below w.heap.size w w'
 zero:∀ (a:Addr) (c:Nat) (w:World),Calls P f #[.slice (some a) 0 c] w λex w'=>∃ v',ex = .returned v'∧w'.ownsRow w.heap.size e sz v' 0 []∧Below w.heap.size w w'
 nil:∀ (n c:Nat) (w:World),Calls P f #[.slice none n c] w λex w'=>ex = .returned (.slice none 0 0)∧w'=w
end Go.Vc
namespace Go.Vc
open Go Go.Proofs Go.RowKit
variable {P:Program}
section
variable {B:D5} {ops:Array Oper} {d:Nat} {ty:TypeId} {pos:String} {af:Array Edge}
theorem Lp {n sz:Nat}:∀ (l:List (Nat×Value)),(∀ p∈l,p.1<n)->∀ (c:Array Value),Instr.fill (λi=>some (i*sz,sz)) c l=Instr.fill (λi=>((List.range n).map λi=>(i*sz,sz))[i]?) c l
 | [],_,_=>rfl
 | (k,v) :: l,hp,c=>by
  have hk:k<n:=hp (k,v) (by simp);have hk2:((List.range n).map λi=>(i*sz,sz))[k]? = some (k*sz,sz):=by simp [List.getElem?_map,List.getElem?_range hk]
  simp only [Instr.fill,hk2];split
  ·rfl
  ·exact Lp l (λp hp'=>hp p (by simp [hp'])) _
theorem OpJ.buildArr {t e:TypeId} {n sz:Nat} {ag:Bool} {z:D} (hu:P.underlying t=some (.array n e)) (ht:TyS P e sz ag) (hz:TyZ P t (.d (.arr n sz (List.replicate n z))))
  {parts:List (Nat×Operand)} {vs:List (Nat×V)} {nt:List (Nat×V)} (hx:Ki parts vs nt) (hok:R2 ((List.range n).map λi=>(i*sz,sz)) (List.replicate n (.d z)) vs=true)
  {es:List D} (hes:es.map V.d=Q3 (List.replicate n (.d z)) vs) (hel:es.length=n) (hsz:D.szs sz es=true) (hpn:∀ p∈parts,p.1<n) (hN:d<B.N) :
  OpJ P B ops ⟨some d,.build t parts.toArray,ty,pos,af,none⟩ { nt,wt:=[(d,.d (.arr n sz es))] } :=
 OpJ.pure rfl rfl hN λenv ob a w σ Z sm hne=>by
  obtain⟨h1,h2,h3⟩:=V.rep_enc (ob:=ob) (σ:=σ) (Z:=Z) (w:=w) (.d (.arr n sz (List.replicate n z))) hz.plain;have hr:D.rep Z w (.arr n sz (List.replicate n z)) (V.d (.arr n sz (List.replicate n z))).enc:=h1;obtain⟨_,hzs,hL⟩:=hr;have hc:(D3 (V.d (.arr n sz (List.replicate n z))).isAgg (V.d (.arr n sz (List.replicate n z))).enc).cells=(V.d (.arr n sz (List.replicate n z))).enc.toArray:=by simp [D3,V.isAgg,D.isAgg,Value.cells]
  have hV:V.repS ob σ Z w (List.replicate n (.d z)) (V.d (.arr n sz (List.replicate n z))).enc:=by
   have:=V5 (ob:=ob) (σ:=σ) hL;simpa using this
  obtain⟨cells',k1,k2,k3⟩:=V6 sm hx hne (cells:=(V.d (.arr n sz (List.replicate n z))).enc.toArray) hok (by simpa using hV) (by
   have:=D.repL_len _ _ hL;rw [List.size_toArray,this];rw [<- N2];simp) (by simpa using h3)
  rw [<- hes] at k2;have hL2:=Fw k2;have hagg:F3 ob σ Z w (.agg cells') (.d (.arr n sz es)):=by
   unfold F3;rw [if_pos (show V.isAgg (.d (.arr n sz es))=true from rfl)];exact⟨cells'.toList,by simp,⟨hel,D.szs_spec hsz,hL2⟩⟩
  refine⟨.agg cells',?_,D0.of hagg rfl⟩;have hmap:(parts.toArray.map λp=>(p.1,a.eval p.2)).toList=parts.map λp=>(p.1,a.eval p.2):=by simp
  have hfill:=Lp (n:=n) (sz:=sz) (parts.map λp=>(p.1,a.eval p.2)) (λp hp=>by
   obtain⟨q,hq,rfl⟩:=List.mem_map.1 hp;exact hpn q hq) ((V.d (.arr n sz (List.replicate n z))).enc.toArray)
  rw [k1] at hfill;simp only [execOp,Instr.build,Sem.run_bind,hz.run,Result.andThen_ok,run_underlying hu,ht.run_size,hc,hmap,hfill,Sem.run_pure]
end
end Go.Vc
namespace Go.Vc
open Go
variable {P:Program} {B:D5} {ops:Array Oper}
theorem Aa.get {Z:Nat->Prop} {w:World}:∀ {ps:List (D×D)} {es:List MapEntry} {j:Nat} {e:MapEntry},Aa Z w ps es->es[j]? = some e->∃ p,ps[j]? = some p∧DV Z w p.1 e.key∧DV Z w p.2 e.val
 | p :: _,e' :: _,0,e,h,he=>by
  simp only [List.getElem?_cons_zero,Option.some.injEq] at he;subst he;exact⟨p,rfl,h.1.1,h.1.2⟩
 | _ :: _,_ :: _,j+1,e,h,he=>by
  obtain⟨p,h1,h2⟩:=Aa.get h.2 (by simpa using he);exact⟨p,by simpa using h1,h2⟩
 | [],[],_,_,_,he=>by simp at he
 | [],_ :: _,_,_,h,_=>h.elim
 | _ :: _,[],_,_,h,_=>h.elim
theorem Lq (n:Nat) (hn:0<n) (w:World):∃ k w1,k<n∧(choose (.mapNext n)).run P w = .ok k w1∧(w1=w∨w1=w.drew):=by
 unfold choose;simp only [Sem.run];split
 ·exact⟨0,w,hn,rfl,.inl rfl⟩
 ·exact⟨_,_,Nat.mod_lt _ hn,rfl,.inr rfl⟩
section
variable {d:Nat} {x:Operand} {ty:TypeId} {pos:String} {af:Array Edge} {nt:List (Nat×V)} {kt et t:TypeId} {nm it:Nat} {ps:List (D×D)}
theorem Ut:∀ {L:List MapEntry},(L.map (·.born)).Nodup->∀ {e e':MapEntry},e∈L->e'∈L->e.born=e'.born->e=e'
 | [],_,e,e',h,_,_=>by simp at h
 | x :: L,hn,e,e',h,h',hb=>by
  rw [List.map_cons,List.nodup_cons] at hn;rcases List.mem_cons.1 h with rfl | h1<;>rcases List.mem_cons.1 h' with rfl | h2
  ·rfl
  ·exact(hn.1 (hb ▸ List.mem_map_of_mem (f:=λe:MapEntry=>e.born) h2)).elim
  ·exact(hn.1 (hb ▸ List.mem_map_of_mem (f:=λe:MapEntry=>e.born) h1)).elim
  ·exact Ut hn.2 h1 h2 hb
end
end Go.Vc
namespace Go.Vc
open Go
variable {P:Program} {B:D5} {ops:Array Oper}
def Nl (b:Bool) (E:EL) (t8 t9:Nat):EL:=(t9,.d (.bool b)) :: (t8,.junk) :: E
section
variable {A S:Type} {Q:Exit->EL->OL->Prop}
theorem Uu {E:EL} {O1:OL} {t7 t8 t9 id b:Nat} {ty8 ty9:TypeId} {pos8 pos9:String} {af8 af9:Array Edge} {a:Act} {w w1:World} {σ:Nat->Option Nat} {Z:Nat->Prop} (hl:a.tmps.size=B.N) (h8:t8<B.N) (h9:t9<B.N) (hv:a.eval (.tmp t7) = .pointer (some ⟨b,0,none⟩)) {QQ:Exit->Act->World->Prop}
  (bb:Bool) (vs:List Value) (hr:(Instr.next (.pointer (some ⟨b,0,none⟩)) false ty8).run P w = .ok (.tuple (Value.bool bb :: vs).toArray) w1) (s1:Sim B (A1 E) (A1 O1) a w1 σ Z) (hq:∀ a' w',Sim B (A1 (Nl bb E t8 t9)) (A1 O1) a' w' σ Z->QQ .normal a' w') :
  (Code.region id [⟨some t8,.next (.tmp t7) false,ty8,pos8,af8,none⟩,⟨some t9,.extract (.tmp t8) 0,ty9,pos9,af9,none⟩].toArray false).wp P QQ a w:=by
 refine wp_region_lit (wpList_step λK hK => ?_);rw [if_pos (by simp [Region.wanted])];unfold Oper.wp;have hr1:(execOp a.eval ⟨some t8,.next (.tmp t7) false,ty8,pos8,af8,none⟩).run P w = .ok (.value (.tuple (Value.bool bb :: vs).toArray)) w1:=by
  simp only [execOp,hv,Sem.run_bind,hr,Result.andThen_ok,Sem.run_pure]
 rw [hr1,Oper.upon_value];refine hK _ _ (wpList_step λK2 hK2 => ?_);rw [if_pos (by simp [Region.wanted])];unfold Oper.wp;have s2:=s1.put h8 (v:=.tuple (Value.bool bb :: vs).toArray) (x:=.junk) (D0.junk _);have e8:(a.put (some t8) (.tuple (Value.bool bb :: vs).toArray)).eval (.tmp t8) = .tuple (Value.bool bb :: vs).toArray:=by
  have hl:t8<a.tmps.size:=by rw [hl];exact h8
  simp [Act.eval,Act.put,hl]
 have hr2:(execOp (a.put (some t8) (.tuple (Value.bool bb :: vs).toArray)).eval ⟨some t9,.extract (.tmp t8) 0,ty9,pos9,af9,none⟩).run P w1 = .ok (.value (.bool bb)) w1:=by
  simp [execOp,e8,Instr.extract]
 rw [hr2,Oper.upon_value];refine hK2 _ _ (wpList_nil ?_);have s3:=s2.put h9 (v:=.bool bb) (x:=.d (.bool bb)) (H3 bb);rw [<- Lk,<- Lk] at s3;exact hq _ _ s3
end
section
variable {d:Nat} {x i:Operand} {ty:TypeId} {pos:String} {af:Array Edge} {nt nt':List (Nat×V)}
theorem OpJ.indexStr {t:TypeId} (hu:P.underlying t=some .string) {s:List UInt8} {k:IntKind} {n:Int} {b:UInt8} (h0:0<=n) (he:s[n.toNat]? = some b) (hN:d<B.N) (hx:Opd x (.d (.str s)) nt) (hi:Opd i (.d (.int k n)) nt') :
  OpJ P B ops ⟨some d,.index t x i,ty,pos,af,none⟩ { nt:=nt++nt',wt:=[(d,.d (.int .u8 (b.toNat:Int)))] } :=
 OpJ.pure rfl rfl hN λenv ob a w σ Z sm hne=>by
  obtain⟨h1,h2⟩:=B4 hne;have hs:=P5 (hx B env ob a w σ Z sm h1);have hin:=E6 (hi B env ob a w σ Z sm h2);have hb:(⟨s.toArray⟩:ByteArray)[n.toNat]? = some b:=by
   have hlt:n.toNat<s.length:=(List.getElem?_eq_some_iff.1 he).1;have hl2:n.toNat<(⟨s.toArray⟩:ByteArray).size:=by simpa [ByteArray.size] using hlt
   rw [getElem?_pos (⟨s.toArray⟩:ByteArray) n.toNat hl2];have:=(List.getElem?_eq_some_iff.1 he).2;simp only [Option.some.injEq];rw [<- this];rfl
  refine⟨.int .u8 (b.toNat:Int),?_,L8 _ _⟩;simp [execOp,hs,hin,Instr.index,asIntOf,run_underlying hu,h0,hb]
end
end Go.Vc
namespace Go.Vc
open Go
variable {P:Program} {B:D5} {ops:Array Oper} {E:EL} {O:OL}
class Und (P:Program) (t:TypeId) (d:outParam TypeDesc):Prop where
 h:P.underlying t=some d
class TS (P:Program) (t:TypeId) (n:outParam Nat) (ag:outParam Bool):Prop where
 h:TyS P t n ag
class TZ (P:Program) (t:TypeId) (z:outParam V):Prop where
 h:TyZ P t z
class TZL (P:Program) (t:TypeId) (zs:outParam (List V)):Prop where
 h:TyZ P t (.st zs)
class TZD (P:Program) (t:TypeId) (z:outParam D):Prop where
 h:TyZ P t (.d z)
class TE (P:Program) (e:TypeId) (sz bytes:outParam Nat):Prop where
 h:TyE P e sz bytes
class TP (P:Program) (t:TypeId) (places:outParam (List (Nat×Nat))):Prop where
 h:∃ fs,TyF P t fs places
class FE (P:Program) (t:TypeId) (x y:D) (b:outParam Bool):Prop where
 fit:∃ h,Nat.ble h 10000=true∧R3 P h t x y b
 grd:P.eqGuardType P.depth t=false
 agg:x.isAgg=true∧y.isAgg=true
class UF (P:Program) (t:TypeId) (l:outParam (List (Nat×Nat))):Prop where
 h:∃ fs,P.underlying t=some (.struct fs)∧fs.toList.map (λf=>(f.type,f.offset))=l
class FO (P:Program) (f:FuncId):Prop where
 h:Ww P f
class Emb (P:Program) (e:TypeId) (α:outParam Type) (f:outParam (α->D)):Prop where
 sz:∀ a b,(f a).sz=(f b).sz
structure E1 (P:Program) (B:D5) (ops:Array Oper) (E:EL) (O:OL) (o:Oper) (d:Nat) (nt:EL) (no:List (Nat×Ob)) (v:V):Prop where
 j:OpJ P B ops o { nt,no,nf:=[],wt:=[(d,v)],wo:=[] }
 e:rE E nt=rE' nt
 o:rO O no=rO' no
structure EG (P:Program) (B:D5) (ops:Array Oper) (E:EL) (O:OL) (o:Oper) (α:Eff):Prop where
 j:OpJ P B ops o α
 e:rE E α.nt=rE' α.nt
 o:rO O α.no=rO' α.no
 f:rF O α.nf=rF' α.nf
section
variable {os:List Oper} {l:List Eff} {E':EL} {O':OL}
end
inductive RdO (g:Bool) (E:EL):EL->EL->Prop
 | nil:RdO g E [] []
 | keep {t:Nat} {v:V} {l l':EL}:A1 E t=some v->v.isOpt=false->RdO g E l l'->RdO g E ((t,v) :: l) ((t,v) :: l')
 | opt {t:Nat} {v:V} {l l':EL}:A1 E t=some (.opt g v)->RdO g E l l'->RdO g E ((t,v) :: l) ((t,.opt g v) :: l')
section
variable {d n:Nat} {ty xt yt t:TypeId} {pos:String} {af:Array Edge} {x y z:Operand} {v w:V} {k k':IntKind} {a b:Int} {nm off:Nat} {p:List Nat}
end
end Go.Vc
namespace Go.Vc
open Go
variable {P:Program} {B:D5} {ops:Array Oper} {E:EL} {O:OL}
def setL {α:Type}:List α->Nat->α->Option (List α)
 | [],_,_=>none
 | _ :: l,0,y=>some (y :: l)
 | x :: l,i+1,y=>match setL l i y with
  | some m=>some (x :: m)
  | none=>none
def V.isJunk:V->Bool
 | .junk=>true
 | _=>false
mutual
def coZ:D->V->Option D
 | _,.d x=>some x
 | .list sz _,.nils=>some (.list sz [])
 | .st zs,.st fs=>match coZL zs fs with
  | some ds=>some (.st ds)
  | none=>none
 | _,_=>none
def coZL:List D->List V->Option (List D)
 | [],[]=>some []
 | z :: zs,f :: fs=>match coZ z f with
  | some d=>match coZL zs fs with
   | some ds=>some (d :: ds)
   | none=>none
  | none=>none
 | _,_=>none
end
mutual
theorem B5d:∀ {v:V} {z y:D},coZ z v=some y->Co v y
 | .d x,z,y,h=>by
  cases z<;>(simp only [coZ,Option.some.injEq] at h;subst h;exact Co.d _)
 | .nils,z,y,h=>by
  cases z<;>simp only [coZ,Option.some.injEq] at h
  all_goals first | (subst h;exact Co.nils _) | cases h
 | .st fs,z,y,h=>by
  cases z with
  | st zs =>
   simp only [coZ] at h;split at h
   ·rename_i ds hd;cases h;exact Co.st (A1s hd)
   ·cases h
  | _=>simp [coZ] at h
 | .junk,z,y,h=>by cases z<;>simp [coZ] at h
 | .ptr ..,z,y,h=>by cases z<;>simp [coZ] at h
 | .dptr ..,z,y,h=>by cases z<;>simp [coZ] at h
 | .sref ..,z,y,h=>by cases z<;>simp [coZ] at h
 | .func ..,z,y,h=>by cases z<;>simp [coZ] at h
 | .tup ..,z,y,h=>by cases z<;>simp [coZ] at h
 | .opt ..,z,y,h=>by cases z<;>simp [coZ] at h
 | .mref ..,z,y,h=>by cases z<;>simp [coZ] at h
 | .full ..,z,y,h=>by cases z<;>simp [coZ] at h
 | .cst _,z,y,h=>by cases z<;>simp [coZ] at h
 | .sat _,z,y,h=>by cases z<;>simp [coZ] at h
theorem A1s:∀ {fs:List V} {zs ys:List D},coZL zs fs=some ys->CoL fs ys
 | [],zs,ys,h=>by
  cases zs<;>simp [coZL] at h;subst h;exact CoL.nil
 | f :: fs,zs,ys,h=>by
  cases zs with
  | nil=>simp [coZL] at h
  | cons z zs =>
   simp only [coZL] at h;split at h
   ·rename_i d hd;split at h
    ·rename_i ds hds;cases h;exact CoL.cons (B5d hd) (A1s hds)
    ·cases h
   ·cases h
end
def U4:List V->List (Nat×V)->Option (List V)
 | cur,[]=>some cur
 | cur,(i,x) :: ps=>match setL cur i x with
  | some c=>U4 c ps
  | none=>none
section
variable {d n:Nat} {ty xt yt t:TypeId} {pos:String} {af:Array Edge} {x y z:Operand} {v w:V} {k k':IntKind} {a b:Int} {nm off:Nat} {p:List Nat}
inductive CoA:List V->List V->Prop
 | nil:CoA [] []
 | eq {v w:V} {vs ws:List V}:v=w->CoA vs ws->CoA (v :: vs) (w :: ws)
 | co {v w:V} {y:D} {vs ws:List V}:w = .d y->Co v y->CoA vs ws->CoA (v :: vs) (w :: ws)
structure CL (P:Program) (R:List (Nat×Nat)) (f:FuncId) (args:List V) (pobs:List (Nat×Ob)) (res:V) (robs:OL):Prop where
 ac:AC P f args pobs res robs
 ok:Z9 R args pobs robs=true
end
section
variable {d n:Nat} {ty t:TypeId} {pos:String} {af:Array Edge} {x y:Operand} {v:V} {nm off:Nat} {p:List Nat}
end
section
variable {os:List Oper} {l:List Eff} {E':EL} {O':OL}
end
section
variable {os:List Oper} {K:List Eff->EL->OL->Prop} {o:Oper} {d m m':Nat} {nt wt:EL} {no:List (Nat×Ob)} {nf:List Nat} {v:V} {x x':Option Ob}
section
variable {g:Nat} {op:Op} {ty:TypeId} {pos:String} {af:Array Edge} {j:Nat} {want w:Bool}
end
end
section
variable {rs:List ResultVar} {vs:List V}
end
section
variable {id:Nat} {l:List Oper} {effs:List Eff} {E':EL} {O':OL} {Q:Exit->EL->OL->Prop} {c2:Code}
end
end Go.Vc
namespace Go.Vc
open Go
inductive Ty where
 | bool | int (k:IntKind) | str | nil | pr (a b:Ty) | st (b:Ty) | arr (n:Nat) (e:Ty) | list (e:Ty) | sum (a b:Ty)
 deriving DecidableEq,Inhabited,Repr
namespace Ty
@[reducible] def T:Ty->Type
 | bool=>Bool | int _=>Int | str=>List UInt8 | nil=>Unit | pr a b=>a.T×b.T | st b=>b.T | arr _ e=>List e.T | list e=>List e.T | sum a b=>a.T⊕b.T
def dflt:(c:Ty)->c.T
 | bool=>false | int _=>(0:Int) | str=>[] | nil=>() | pr a b=>(a.dflt,b.dflt) | st b=>b.dflt | arr _ _=>[] | list _=>[] | sum a _ => .inl a.dflt
def zero:(c:Ty)->c.T
 | bool=>false | int _=>(0:Int) | str=>[] | nil=>() | pr a b=>(a.zero,b.zero) | st b=>b.zero | arr n e=>List.replicate n e.zero | list _=>[] | sum a _ => .inl a.zero
def sz:Ty->Nat
 | nil=>0 | pr a b=>a.sz+b.sz | st b=>b.sz | arr n e=>n*e.sz | sum _ _=>0 | _=>1
def agg:Ty->Bool
 | st _ | arr _ _=>true
 | _=>false
def dat:Ty->Bool->Bool
 | nil,f=>f
 | pr a b,f=>f&&a.dat false&&b.dat true
 | st b,_=>b.dat true
 | arr _ e,_=>e.dat false
 | list e,_=>e.dat false
 | sum _ _,_=>false
 | _,_=>true
def encs:(c:Ty)->c.T->List D
 | bool,x=>[.bool x]
 | int k,x=>[.int k x]
 | str,x=>[.str x]
 | nil,_=>[]
 | pr a b,x=>a.encs x.1++b.encs x.2
 | st b,x=>[.st (b.encs x)]
 | arr n e,x=>[.arr n e.sz (List.map (λy=>(e.encs y).headD (.bool false)) x)]
 | list e,x=>[.list e.sz (List.map (λy=>(e.encs y).headD (.bool false)) x)]
 | sum _ _,_=>[]
def enc (c:Ty) (x:c.T):D:=(c.encs x).headD (.bool false)
theorem F2:∀ {c:Ty},c.dat false=true->∀ x:c.T,c.encs x=[c.enc x]
 | bool,_,_ | int _,_,_ | str,_,_ | st _,_,_ | arr _ _,_,_ | list _,_,_=>rfl
 | nil,h,_ | sum _ _,h,_=>by simp [dat] at h
 | pr _ _,h,_=>by simp [dat] at h
theorem Yi (xs ys:List D):D.szL (xs++ys)=D.szL xs+D.szL ys:=by
 induction xs with
 | nil=>simp [D.szL]
 | cons x xs ih=>simp [D.szL,ih,Nat.add_assoc]
theorem Gc:∀ {c:Ty} {f:Bool},c.dat f=true->∀ x:c.T,D.szL (c.encs x)=c.sz
 | bool,_,_,_ | int _,_,_,_ | str,_,_,_ | list _,_,_,_=>rfl
 | nil,_,_,_=>rfl
 | sum _ _,_,h,_=>by simp [dat] at h
 | pr a b,f,h,x=>by
  simp only [dat,Bool.and_eq_true] at h;simp only [encs,Yi,sz,Gc h.1.2,Gc h.2]
 | st b,_,h,x=>by simp only [encs,D.szL,D.sz,sz,Nat.add_zero];exact Gc (c:=b) (f:=true) h x
 | arr n e,_,h,x=>by simp [encs,D.szL,D.sz,sz]
theorem D7 {c:Ty} (h:c.dat false=true) (x:c.T):(c.enc x).sz=c.sz:=by
 have:=Gc h x;rw [F2 h] at this;simpa [D.szL] using this
theorem O4:∀ {c:Ty},c.dat false=true->∀ x:c.T,(c.enc x).isAgg=c.agg
 | bool,_,_ | int _,_,_ | str,_,_ | st _,_,_ | arr _ _,_,_ | list _,_,_=>rfl
 | nil,h,_ | sum _ _,h,_ | pr _ _,h,_=>by simp [dat] at h
def nf:Ty->Nat
 | nil=>0
 | pr _ b=>b.nf+1
 | _=>1
def fty:Ty->Nat->Ty
 | pr a _,0=>a
 | pr _ b,i+1=>b.fty i
 | c,_=>c
def fget:(c:Ty)->c.T->(i:Nat)->(c.fty i).T
 | pr _ _,x,0=>x.1
 | pr _ b,x,i+1=>b.fget x.2 i
 | bool,x,_=>x
 | int _,x,_=>x
 | str,x,_=>x
 | nil,x,_=>x
 | st _,x,_=>x
 | arr _ _,x,_=>x
 | list _,x,_=>x
 | sum _ _,x,_=>x
def fset:(c:Ty)->c.T->(i:Nat)->(c.fty i).T->c.T
 | pr _ _,x,0,y=>(y,x.2)
 | pr _ b,x,i+1,y=>(x.1,b.fset x.2 i y)
 | bool,_,_,y=>y
 | int _,_,_,y=>y
 | str,_,_,y=>y
 | nil,_,_,y=>y
 | st _,_,_,y=>y
 | arr _ _,_,_,y=>y
 | list _,_,_,y=>y
 | sum _ _,_,_,y=>y
def foff:Ty->Nat->Nat
 | pr _ _,0=>0
 | pr a b,i+1=>a.sz+b.foff i
 | _,_=>0
theorem M2:∀ {c:Ty},c.dat true=true->∀ (x:c.T) (i:Nat),i<c.nf->(c.encs x)[i]? = some ((c.fty i).enc (c.fget x i))∧D.szL ((c.encs x).take i)=c.foff i∧(c.fty i).dat false=true ∧
  ∀ y,c.encs (c.fset x i y)=(c.encs x).set i ((c.fty i).enc y)
 | bool,_,_,i,h | int _,_,_,i,h | str,_,_,i,h=>by
  have:i=0:=by simp [nf] at h;exact h
  subst this;exact⟨rfl,rfl,rfl,λ_=>rfl⟩
 | st _,hd,_,i,h | arr _ _,hd,_,i,h | list _,hd,_,i,h=>by
  have:i=0:=by simp [nf] at h;exact h
  subst this;exact⟨rfl,rfl,hd,λ_=>rfl⟩
 | nil,_,_,_,h=>by simp [nf] at h
 | sum _ _,hd,_,_,_=>by simp [dat] at hd
 | pr a b,hd,x,0,_=>by
  simp only [dat,Bool.and_eq_true] at hd;have:=F2 hd.1.2;refine⟨?_,rfl,hd.1.2,λ(y:a.T) => ?_⟩
  ·show(a.encs x.1++b.encs x.2)[0]? = some (a.enc x.1);rw [this];rfl
  ·have e:a.encs y++b.encs x.2=(a.encs x.1++b.encs x.2).set 0 (a.enc y):=by rw [this y,this x.1];rfl
   exact e
 | pr a b,hd,x,i+1,h=>by
  simp only [dat,Bool.and_eq_true] at hd;have e:=F2 hd.1.2 x.1;obtain⟨h1,h2,h3,h4⟩:=M2 (c:=b) hd.2 x.2 i (by simp [nf] at h;omega);refine⟨?_,?_,h3,λy => ?_⟩
  ·show(a.encs x.1++b.encs x.2)[i+1]? = _;rw [e];exact h1
  ·show D.szL ((a.encs x.1++b.encs x.2).take (i+1))=a.sz+b.foff i;rw [e];show(a.enc x.1).sz+D.szL ((b.encs x.2).take i)=_;rw [D7 hd.1.2,h2]
  ·have k:a.encs x.1++b.encs (b.fset x.2 i y)=(a.encs x.1++b.encs x.2).set (i+1) ((b.fty i).enc y):=by rw [e];exact congrArg _ (h4 y)
   exact k
theorem A6l:∀ {c:Ty},c.dat true=true->∀ x:c.T,(c.encs x).length=c.nf
 | bool,_,_ | int _,_,_ | str,_,_ | nil,_,_ | st _,_,_ | arr _ _,_,_ | list _,_,_=>rfl
 | sum _ _,h,_=>by simp [dat] at h
 | pr a b,h,x=>by
  simp only [dat,Bool.and_eq_true] at h;have:=A6l h.2 x.2;simp only [encs,List.length_append,F2 h.1.2,nf,this,List.length_cons,List.length_nil];omega
def cmpb:Ty->Bool
 | bool=>true | int _=>true | str=>true | nil=>true
 | pr a b=>a.cmpb&&b.cmpb
 | st b=>b.cmpb
 | arr _ e=>e.cmpb
 | _=>false
def eqL {α:Type} (f:α->α->Bool):List α->List α->Bool
 | [],[]=>true
 | x :: xs,y :: ys=>f x y&&eqL f xs ys
 | _,_=>false
def eqT:(c:Ty)->c.T->c.T->Bool
 | bool,x,y => @BEq.beq Bool _ x y
 | int _,x,y => @BEq.beq Int _ x y
 | str,x,y => @BEq.beq (List UInt8) _ x y
 | nil,_,_=>true
 | pr a b,x,y=>a.eqT x.1 y.1&&b.eqT x.2 y.2
 | st b,x,y=>b.eqT x y
 | arr _ e,x,y=>eqL e.eqT x y
 | _,_,_=>false
theorem Kq {α:Type} {f:α->α->Bool} (h:∀ x y,f x y=true↔x=y):∀ xs ys:List α,eqL f xs ys=true↔xs=ys
 | [],[]=>by simp [eqL]
 | [],_ :: _ | _ :: _,[]=>by simp [eqL]
 | x :: xs,y :: ys=>by simp [eqL,h,Kq h xs ys]
theorem Y2:∀ {c:Ty},c.cmpb=true->∀ x y:c.T,c.eqT x y=true↔x=y
 | bool,_,x,y => @beq_iff_eq Bool _ _ x y
 | int _,_,x,y => @beq_iff_eq Int _ _ x y
 | str,_,x,y => @beq_iff_eq (List UInt8) _ _ x y
 | nil,_,_,_=>⟨λ_=>rfl,λ_=>rfl⟩
 | pr a b,h,x,y=>by
  simp only [cmpb,Bool.and_eq_true] at h;simp only [eqT,Bool.and_eq_true,Y2 h.1,Y2 h.2];exact⟨λ⟨p,q⟩=>Prod.ext p q,λe=>by subst e;exact⟨rfl,rfl⟩⟩
 | st b,h,x,y=>Y2 (c:=b) h x y
 | arr _ e,h,x,y=>Kq (Y2 (c:=e) h) x y
 | list _,h,_,_ | sum _ _,h,_,_=>by simp [cmpb] at h
def eqA:(c:Ty)->c.T->c.T->Bool
 | bool,x,y => @BEq.beq Bool _ x y
 | int _,x,y => @BEq.beq Int _ x y
 | str,x,y => @BEq.beq (List UInt8) _ x y
 | nil,_,_=>true
 | pr a b,x,y=>a.eqA x.1 y.1&&b.eqA x.2 y.2
 | st b,x,y=>b.eqA x y
 | arr _ e,x,y=>eqL e.eqA x y
 | list e,x,y=>eqL e.eqA x y
 | sum a b,x,y=>match x,y with
  | .inl x,.inl y=>a.eqA x y
  | .inr x,.inr y=>b.eqA x y
  | _,_=>false
theorem Br:∀ {c:Ty} (x y:c.T),c.eqA x y=true↔x=y
 | bool,x,y => @beq_iff_eq Bool _ _ x y
 | int _,x,y => @beq_iff_eq Int _ _ x y
 | str,x,y => @beq_iff_eq (List UInt8) _ _ x y
 | nil,_,_=>⟨λ_=>rfl,λ_=>rfl⟩
 | pr a b,x,y=>by
  simp only [eqA,Bool.and_eq_true,Br];exact⟨λ⟨p,q⟩=>Prod.ext p q,λe=>by subst e;exact⟨rfl,rfl⟩⟩
 | st b,x,y=>Br (c:=b) x y
 | arr _ e,x,y=>Kq (Br (c:=e)) x y
 | list e,x,y=>Kq (Br (c:=e)) x y
 | sum a b,.inl x,.inl y=>by
  show a.eqA x y=true↔_;rw [Br];exact⟨λe=>by rw [e],λe=>by cases e;rfl⟩
 | sum a b,.inr x,.inr y=>by
  show b.eqA x y=true↔_;rw [Br];exact⟨λe=>by rw [e],λe=>by cases e;rfl⟩
 | sum a b,.inl x,.inr y=>by simp [eqA]
 | sum a b,.inr x,.inl y=>by simp [eqA]
def bothT (c:Ty) (x y:Option c.T):Option c.T:=x.bind λa=>y.bind λb=>if c.eqA a b=true then some a else none
theorem Pq {c:Ty} {x y:Option c.T} {r:c.T} (h:bothT c x y=some r):x=some r∧y=some r:=by
 unfold bothT at h;cases x with
 | none=>cases h
 | some a =>
  cases y with
  | none=>cases h
  | some b =>
   simp only [Option.bind_some] at h;split at h
   ·rename_i e;cases h;exact⟨rfl,by rw [(Br _ _).1 e]⟩
   ·cases h
end Ty
end Go.Vc
namespace Go.Vc
open Go
variable {P:Program} {B:D5} {ops:Array Oper}
section
variable {α β:Type} {f:α->D} {g:β->D} {eq:α->α->Bool} {k:α}
end
section
variable {d:Nat} {x y i:Operand} {ty:TypeId} {pos:String} {af:Array Edge} {nt nt' nt'':List (Nat×V)}
variable {α β:Type} {f:α->D} {g:β->D} {eq:α->α->Bool} {kt et t:TypeId} {kd:TypeDesc} {nm:Nat} {l:List (α×β)} {k:α}
end
structure C05 (P:Program) (f:FuncId):Prop where
 run:∀ (b:Nat) (es:Array MapEntry) (clock:Nat) (w:World),w.heap[b]? = some (.map es clock)->Calls P f #[.map (some b)] w λe w'=>e = .returned (.map (some w.heap.size))∧w'=w.alloc (.map es clock)
end Go.Vc
namespace Go.Vc
open Go
variable {P:Program} {B:D5} {ops:Array Oper}
variable {S:Blk} {nt wt:List (Nat×V)} {n nm:Nat} {ob:Obs} {x:Option Ob}
theorem Sim.reB {env:Env} {ob:Obs} {a:Act} {w:World} {σ:Nat->Option Nat} {Z:Nat->Prop} (s:Sim B env ob a w σ Z) {n:Nat} {S T:Blk} (hn:ob n=some (some (.blk S))) (h:∀ b,σ n=some b->S.holds Z w b->T.holds Z w b) :
  Sim B env (B9 ob n (some (.blk T))) a w σ Z:=by
 have hl:∀ m,live (B9 ob n (some (.blk T))) m->live ob m:=λm ⟨o,h⟩=>by
  by_cases hm:m=n
  ·subst hm;exact⟨_,hn⟩
  ·exact⟨o,by simpa [B9,hm] using h⟩
 have m:K4 ob (B9 ob n (some (.blk T))) σ σ Z Z w w:=⟨Ext.refl _ _,λm h=>by
   by_cases hm:m=n
   ·subst hm;simp [used,B9]
   ·simpa [used,B9,hm] using h,λm _ h=>⟨hl m h,rfl⟩,λ_ _ _ _ _=>rfl⟩
 refine { s with env:=?_,obj:=?_,inj:=λi j b hi hj=>s.inj i j b (hl i hi) (hl j hj),blk:=λi b hi=>s.blk i b (hl i hi),pin:=λi b hp hi=>s.pin i b hp (hl i hi),shp:=λi b hp hi=>s.shp i b hp (hl i hi),foot:=s.foot.same hl λr h=>by cases h }
 ·intro t x ht;obtain⟨v,h1,h2⟩:=s.env t x ht;exact⟨v,h1,h2.move m⟩
 ·intro i o hi
  by_cases hin:i=n
  ·subst hin;have ho:o = .blk T:=by simpa [B9] using hi.symm
   subst ho;obtain⟨b,hb,hS⟩:=s.obj i _ hn;exact⟨b,hb,h b hb hS⟩
  ·have ho:ob i=some (some o):=by simpa [B9,hin] using hi
   have h:=s.obj i o ho;cases o with
   | box t x =>
    obtain⟨b,cs,h1,h2,h3,h4,h5⟩:=h;exact⟨b,cs,h1,h2,h3,h4,V.rep_move m x _ h5⟩
   | vrow e' sz' fs' =>
    obtain⟨h0,h00,v,xs,h1,h1',h2,h3,h4⟩:=h;exact⟨h0,h00,v,xs,h1,h1',V.repS_move m fs' xs h2,h3,h4⟩
   | row e' sz' es'=>exact h
   | blk sp=>exact h
   | know k=>exact h
   | reg r=>exact h
theorem Dy {y:Option Ob}:B9 (B9 ob n x) n y=B9 ob n y:=by
 funext k;unfold B9;by_cases h:k=n<;>simp [h]
theorem A41 (h:ob n=some x):B9 ob n x=ob:=by
 funext k;unfold B9
 by_cases hk:k=n
 ·rw [if_pos hk,hk,h]
 ·rw [if_neg hk]
theorem OpJ.reQ0 {o:Oper} (h:∀ (Z:Nat->Prop) (w:World) (b:Nat),S.holds Z w b->∃ T:Blk,T.holds Z w b∧(∀ (Z:Nat->Prop) (w:World) (b:Nat),T.holds Z w b->S.holds Z w b)∧OpJ P B ops o { nt,no:=[(nm,.blk T)],wt }) :
  OpJ P B ops o { nt,no:=[(nm,.blk S)],wt }:=by
 intro Q env ob a w σ Z K s hn hK;have hob:ob nm=some (some (.blk S)):=hn.2.1 (nm,.blk S) (by simp);obtain⟨b,hb,hS⟩:=s.obj nm _ hob;obtain⟨T,hT,hback,hop⟩:=h Z w b hS;have s1:=s.reB hob (T:=T) (λb' hb' _=>by
  have:b=b':=Option.some.inj (hb.symm.trans hb');rw [<- this];exact hT)
 have hT1:B9 ob nm (some (.blk T)) nm=some (some (.blk T)):=by simp [B9]
 refine hop Q env (B9 ob nm (some (.blk T))) a w σ Z K s1 ⟨hn.1,λp hp=>by simp at hp;subst hp;exact hT1,λn hn=>by cases hn⟩ λa' w' σ' Z' s'=>hK a' w' σ' Z' ?_;rw [C9 _ rfl] at s' ⊢;have s2:=s'.reB hT1 (T:=S) (λb' _ h=>hback _ _ _ h);rw [Dy,A41 hob] at s2;exact s2
theorem OpJ.reQ1 {o:Oper} {S':Blk} (h:∀ (Z:Nat->Prop) (w:World) (b:Nat),S.holds Z w b->∃ T T':Blk,T.holds Z w b∧(∀ (Z:Nat->Prop) (w:World) (b:Nat),T'.holds Z w b->S'.holds Z w b)∧OpJ P B ops o { nt,no:=[(nm,.blk T)],wt,wo:=[(nm,some (.blk T'))] }) :
  OpJ P B ops o { nt,no:=[(nm,.blk S)],wt,wo:=[(nm,some (.blk S'))] }:=by
 intro Q env ob a w σ Z K s hn hK;have hob:ob nm=some (some (.blk S)):=hn.2.1 (nm,.blk S) (by simp);obtain⟨b,hb,hS⟩:=s.obj nm _ hob;obtain⟨T,T',hT,hback,hop⟩:=h Z w b hS;have s1:=s.reB hob (T:=T) (λb' hb' _=>by
  have:b=b':=Option.some.inj (hb.symm.trans hb');rw [<- this];exact hT)
 have hT1:B9 ob nm (some (.blk T)) nm=some (some (.blk T)):=by simp [B9]
 refine hop Q env (B9 ob nm (some (.blk T))) a w σ Z K s1 ⟨hn.1,λp hp=>by simp at hp;subst hp;exact hT1,λn hn=>by cases hn⟩ λa' w' σ' Z' s'=>hK a' w' σ' Z' ?_;rw [F1 _ rfl] at s' ⊢;have s2:=s'.reB (n:=nm) (S:=T') (by simp [B9]) (T:=S') (λb' _ h=>hback _ _ _ h);rw [Dy,Dy] at s2;exact s2
mutual
theorem R3.same_true:∀ {h:Nat} {t:TypeId} {x y:D} {b:Bool},R3 P h t x y b->x=y->b=true
 | _,_,_,_,_,.bool a b hu,e=>by cases e;simp
 | _,_,_,_,_,.int a b hu,e=>by cases e;simp
 | _,_,_,_,_,.str a b hu,e=>by cases e;simp
 | _,_,_,_,_,.st hu hl hs hf,e=>FitF.same_true hf (by cases e;rfl)
theorem FitF.same_true:∀ {h o:Nat} {fs:List Field} {xs ys:List D} {b:Bool},FitF P h o fs xs ys b->xs=ys->b=true
 | _,_,_,_,_,_,.nil,_=>rfl
 | _,_,_,_,_,_,.cons hn ho ht hx hy he hf,e=>by
  rw [R3.same_true he (by cases e;rfl),FitF.same_true hf (by cases e;rfl)];rfl
end
section
variable {α β:Type} {f:α->D} {g:β->D} {eq:α->α->Bool} {kt:TypeId}
variable {l l':List (α×β)}
theorem R3.now {kt:TypeId} {kd:TypeDesc} (hu:P.underlying kt=some kd) {h:Nat} {x y:D} {b:Bool} (hfe:R3 P h kt x y b) {Z Z':Nat->Prop} {w1 w2:World} {va vb:Value} (ha:DV Z w1 x va) (hb:DV Z' w2 y vb):Instr.sameNow kd va vb=some b∨Instr.sameNow kd va vb=none:=by
 obtain⟨c1,rfl,r1⟩:=ha;obtain⟨c2,rfl,r2⟩:=hb;cases hfe with
 | bool a b' hu'=>cases hu.symm.trans hu';cases r1;cases r2;left;simp [Instr.sameNow,D3,D.isAgg]
 | @int _ _ q kk a b' hu'=>cases hu.symm.trans hu';cases r1;cases r2;left;simp [Instr.sameNow,D3,D.isAgg]
 | str a b' hu' =>
  cases hu.symm.trans hu';cases r1;cases r2;left;have hb:((⟨a.toArray⟩:ByteArray)==⟨b'.toArray⟩)=(a==b'):=by
   show(a.toArray==b'.toArray)=(a==b');simp
  simp [Instr.sameNow,D3,D.isAgg,hb]
 | st hu' hl hs hff=>cases hu.symm.trans hu';right;simp [Instr.sameNow]
def dn (f:α->D) (l:List (α×β)):Prop:=(l.map λp=>f p.1).Nodup
theorem A1t (h:l'.Perm l) (hd:dn f l'):dn f l:=(h.map _).nodup_iff.1 hd
theorem Lr (he:V1 P kt f eq) {k:α} {v:β}:∀ {l:List (α×β)},dn f l->(mget eq l k=some v↔∃ p∈l,f k=f p.1∧p.2=v)
 | [],_=>by simp [mget,mix]
 | p :: l,hd=>by
  have hd':dn f l:=(List.nodup_cons.1 hd).2;have hno:=(List.nodup_cons.1 hd).1;have ih:=Lr he (k:=k) (v:=v) hd';have e0:mget eq (p :: l) k=if eq k p.1=true then some p.2 else mget eq l k:=by
   have e:mix eq k (p :: l)=if eq k p.1=true then some (0,p.2) else (mix eq k l).map λr=>(r.1+1,r.2):=by rw [mix]
   show(mix eq k (p :: l)).map (·.2)=if eq k p.1=true then some p.2 else (mix eq k l).map (·.2);rw [e]
   by_cases h:eq k p.1=true
   ·rw [if_pos h,if_pos h];rfl
   ·rw [if_neg h,if_neg h];cases mix eq k l<;>rfl
  rw [e0]
  by_cases hk:eq k p.1=true
  ·have hk':=(he.iff _ _).1 hk;rw [if_pos hk];constructor
   ·intro e;exact⟨p,List.mem_cons_self,hk',Option.some.inj e⟩
   ·rintro⟨q,hq,h1,h2⟩;rcases List.mem_cons.1 hq with rfl | hq
    ·rw [h2]
    ·exact(hno (List.mem_map.2 ⟨q,hq,h1.symm.trans hk'⟩)).elim
  ·rw [if_neg hk,ih];constructor
   ·rintro⟨q,hq,h⟩;exact⟨q,List.mem_cons_of_mem _ hq,h⟩
   ·rintro⟨q,hq,h1,h2⟩;rcases List.mem_cons.1 hq with rfl | hq
    ·exact(hk ((he.iff _ _).2 h1)).elim
    ·exact⟨q,hq,h1,h2⟩
theorem A42 (he:V1 P kt f eq) (h:l'.Perm l) (hd:dn f l') (k:α):mget eq l' k=mget eq l k:=by
 refine Option.ext λv => ?_;rw [Lr he hd,Lr he (A1t h hd)];constructor
 ·rintro⟨p,hp,h2⟩;exact⟨p,h.mem_iff.1 hp,h2⟩
 ·rintro⟨p,hp,h2⟩;exact⟨p,h.mem_iff.2 hp,h2⟩
theorem A43 (he:V1 P kt f eq) {k:α} {v:β} (h:l'.Perm l):dn f l'->(mput eq l' k v).Perm (mput eq l k v):=by
 induction h with
 | nil=>intro _;exact List.Perm.refl _
 | cons x h ih =>
  intro hd;have ih:=ih (List.nodup_cons.1 hd).2;unfold mput
  by_cases hk:eq k x.1=true
  ·rw [if_pos hk,if_pos hk];exact h.cons _
  ·rw [if_neg hk,if_neg hk];exact ih.cons _
 | swap x y l =>
  intro hd;have hne:f y.1≠f x.1:=λe=>(List.nodup_cons.1 hd).1 (List.mem_map.2 ⟨x,List.mem_cons_self,e.symm⟩);simp only [mput]
  by_cases h1:eq k y.1=true
  ·have h2:¬ eq k x.1=true:=λe=>hne (((he.iff _ _).1 h1).symm.trans ((he.iff _ _).1 e));rw [if_pos h1,if_neg h2,if_pos h1];exact List.Perm.swap _ _ _
  ·by_cases h2:eq k x.1=true
   ·rw [if_neg h1,if_pos h2,if_pos h2];exact List.Perm.swap _ _ _
   ·rw [if_neg h1,if_neg h2,if_neg h2,if_neg h1];exact List.Perm.swap _ _ _
 | trans h1 h2 ih1 ih2=>intro hd;exact(ih1 hd).trans (ih2 (A1t h1 hd))
theorem Uv {k:α} {v:β} {x:D}:∀ {l:List (α×β)},x∈((mput eq l k v).map λp=>f p.1)->x∈(l.map λp=>f p.1)∨x=f k
 | [],h=>by simpa [mput] using h
 | p :: l,h=>by
  unfold mput at h;split at h
  ·exact .inl (by simpa using h)
  ·rw [List.map_cons] at h ⊢;rcases List.mem_cons.1 h with h | h
   ·exact .inl (by rw [h];exact List.mem_cons_self)
   ·rcases Uv h with h | h
    ·exact .inl (List.mem_cons_of_mem _ h)
    ·exact .inr h
theorem A1u (he:V1 P kt f eq) {k:α} {v:β}:∀ {l:List (α×β)},dn f l->dn f (mput eq l k v)
 | [],_=>by simp [mput,dn]
 | p :: l,hd=>by
  have h1:=List.nodup_cons.1 hd;unfold mput
  by_cases hk:eq k p.1=true
  ·rw [if_pos hk];exact hd
  ·rw [if_neg hk];refine List.nodup_cons.2 ⟨λhm => ?_,A1u he h1.2⟩;rcases Uv hm with h | h
   ·exact h1.1 h
   ·exact hk ((he.iff _ _).2 h.symm)
end
theorem A44 {A C:Type} (h:A->C) {l:List A} {qs:List C} (hp:qs.Perm (l.map h)):∃ l':List A,l'.Perm l∧qs=l'.map h:=by
 generalize hm:l.map h=m at hp;induction hp generalizing l with
 | nil=>exact⟨[],by rw [List.map_eq_nil_iff.1 hm],rfl⟩
 | cons x hp ih =>
  cases l with
  | nil=>cases hm
  | cons a l =>
   rw [List.map_cons,List.cons.injEq] at hm;obtain⟨l',h1,h2⟩:=ih hm.2;exact⟨a :: l',h1.cons a,by rw [List.map_cons,hm.1,h2]⟩
 | swap x y m =>
  cases l with
  | nil=>cases hm
  | cons a l =>
   cases l with
   | nil=>cases hm
   | cons b l =>
    simp only [List.map_cons,List.cons.injEq] at hm;exact⟨b :: a :: l,List.Perm.swap a b l,by rw [List.map_cons,List.map_cons,hm.1,hm.2.1,hm.2.2]⟩
 | trans h1 h2 ih1 ih2 =>
  obtain⟨l2,g1,g2⟩:=ih2 hm;obtain⟨l1,g3,g4⟩:=ih1 g2.symm;exact⟨l1,g3.trans g1,g4⟩
def Y3 (ps:List (D×D)):Blk where
 holds Z w b:=∃ qs:List (D×D),qs.Perm ps∧(qs.map (·.1)).Nodup∧(Dm qs).holds Z w b
 move hx hb h:=by
  obtain⟨qs,h1,h2,h3⟩:=h;exact⟨qs,h1,h2,(Dm qs).move hx hb h3⟩
 lt h:=by
  obtain⟨qs,_,_,h3⟩:=h;exact(Dm qs).lt h3
theorem Y3.lift {α β:Type} {f:α->D} {g:β->D} {l:List (α×β)} {Z:Nat->Prop} {w:World} {b:Nat} (h:(Y3 (D4 f g l)).holds Z w b):∃ l':List (α×β),l'.Perm l∧dn f l'∧(Dm (D4 f g l')).holds Z w b:=by
 obtain⟨qs,h1,h2,h3⟩:=h;obtain⟨l',g1,g2⟩:=A44 _ h1;subst g2;refine⟨l',g1,?_,h3⟩;rw [List.map_map] at h2;exact h2
theorem Y3.of {α β:Type} {f:α->D} {g:β->D} {l l':List (α×β)} {Z:Nat->Prop} {w:World} {b:Nat} (hp:l'.Perm l) (hd:dn f l') (h:(Dm (D4 f g l')).holds Z w b):(Y3 (D4 f g l)).holds Z w b :=
 ⟨D4 f g l',hp.map _,by unfold D4;rw [List.map_map];exact hd,h⟩
section
variable {d:Nat} {x y i:Operand} {ty:TypeId} {pos:String} {af:Array Edge} {nt nt' nt'':List (Nat×V)}
theorem OpJ.mkmapQ {t:TypeId} (hB:B.ok) (hnm:1000<=nm) (hN:d<B.N) :
  OpJ P B ops ⟨some d,.makeMap t none,ty,pos,af,none⟩ { nf:=[nm],wt:=[(d,.mref nm)],wo:=[(nm,some (.blk (Y3 [])))] }:=by
 intro Q env ob a w σ Z K s hn hK;refine OpJ.mkmap hB hnm hN Q env ob a w σ Z K s hn λa' w' σ' Z' s'=>hK a' w' σ' Z' ?_;rw [F1 _ rfl] at s' ⊢;have s2:=s'.reB (n:=nm) (S:=Dm []) (by simp [B9]) (T:=Y3 []) (λb' _ h=>⟨[],List.Perm.refl _,List.Pairwise.nil,h⟩);rw [Dy] at s2;exact s2
section
variable {α β:Type} {f:α->D} {g:β->D} {eq:α->α->Bool} {kt et t:TypeId} {kd:TypeDesc} {nm:Nat} {l:List (α×β)} {k:α}
theorem OpJ.mlookQ (hu:P.underlying t=some (.map kt et)) (hk:P.underlying kt=some kd) (he:V1 P kt f eq) {z:β} (hz:TyZ P et (.d (g z))) (hN:d<B.N) (hx:Opd x (.mref nm) nt) (hi:Opd i (.d (f k)) nt') :
  OpJ P B ops ⟨some d,.lookup t x i false,ty,pos,af,none⟩ { nt:=nt++nt',no:=[(nm,.blk (Y3 (D4 f g l)))],wt:=[(d,.d (g ((mget eq l k).getD z)))] } :=
 OpJ.reQ0 λZ w b hS=>by
  obtain⟨l',h1,h2,h3⟩:=Y3.lift hS;refine⟨Dm (D4 f g l'),h3,λZ w b h=>Y3.of h1 h2 h,?_⟩;rw [<- A42 he h1 h2 k];exact OpJ.mlook hu hk he hz hN hx hi
theorem OpJ.mputQ (hu:P.underlying t=some (.map kt et)) (hk:P.underlying kt=some kd) (he:V1 P kt f eq) {v:β} (hx:Opd x (.mref nm) nt) (hi:Opd i (.d (f k)) nt') (hy:Opd y (.d (g v)) nt'') :
  OpJ P B ops ⟨none,.mapUpdate t x i y,ty,pos,af,none⟩ { nt:=nt++(nt'++nt''),no:=[(nm,.blk (Y3 (D4 f g l)))],wo:=[(nm,some (.blk (Y3 (D4 f g (Vc.mput eq l k v)))))] } :=
 OpJ.reQ1 λZ w b hS=>by
  obtain⟨l',h1,h2,h3⟩:=Y3.lift hS;exact⟨Dm (D4 f g l'),Dm (D4 f g (Vc.mput eq l' k v)),h3,λZ w b h=>Y3.of (A43 he h1 h2) (A1u he h2) h,OpJ.mput hu hk he hx hi hy⟩
end
section
variable {kt et t:TypeId} {nm it:Nat} {ps:List (D×D)}
end
end
end Go.Vc
namespace Go.Vc
open Go
variable {S X:Type}
structure Alg where
 I:Ty->Type
 M:Ty->Type
 dflt:(c:Ty)->I c
 kb:Bool->I .bool
 ki:(k:IntKind)->Int->I (.int k)
 ks:List UInt8->I .str
 un:I .nil
 zero:(c:Ty)->I c
 pr:(a b:Ty)->I a->I b->I (.pr a b)
 fst:(a b:Ty)->I (.pr a b)->I a
 snd:(a b:Ty)->I (.pr a b)->I b
 st:(b:Ty)->I b->I (.st b)
 fld:(b:Ty)->I (.st b)->(i:Nat)->I (b.fty i)
 fset:(b:Ty)->I (.st b)->(i:Nat)->I (b.fty i)->I (.st b)
 inl:(a b:Ty)->I a->I (.sum a b)
 inr:(a b:Ty)->I b->I (.sum a b)
 bin:BinOp->(k:IntKind)->I (.int k)->I (.int k)->I (.int k)
 sh:Bool->(k k':IntKind)->I (.int k)->I (.int k')->I (.int k)
 cmp:BinOp->(k:IntKind)->I (.int k)->I (.int k)->I .bool
 eq:(c:Ty)->I c->I c->I .bool
 not:I .bool->I .bool
 and:I .bool->I .bool->I .bool
 or:I .bool->I .bool->I .bool
 isb:Bool->I .bool->I .bool
 conv:(k k':IntKind)->I (.int k)->I (.int k')
 neg:(k:IntKind)->I (.int k)->I (.int k)
 inv:(k:IntKind)->I (.int k)->I (.int k)
 mm:Bool->(k:IntKind)->I (.int k)->I (.int k)->I (.int k)
 len:(e:Ty)->I (.list e)->I (.int .i64)
 slen:I .str->I (.int .i64)
 lit:(e:Ty)->List (I e)->I (.list e)
 app:(e:Ty)->I (.list e)->I (.list e)->I (.list e)
 setL:(e:Ty)->(k:IntKind)->I (.list e)->I (.int k)->I e->I (.list e)
 cutT:(e:Ty)->(k:IntKind)->I (.list e)->I (.int k)->I (.list e)
 cutD:(e:Ty)->(k:IntKind)->I (.list e)->I (.int k)->I (.list e)
 repL:(e:Ty)->(k:IntKind)->I (.int k)->I e->I (.list e)
 mkA:(n:Nat)->(e:Ty)->List (I e)->I (.arr n e)
 setA:(n:Nat)->(e:Ty)->(k:IntKind)->I (.arr n e)->I (.int k)->I e->I (.arr n e)
 arrL:(n:Nat)->(e:Ty)->I (.arr n e)->I (.list e)
 toA:(n:Nat)->(e:Ty)->I (.list e)->I (.arr n e)
 lastF:(b:Ty)->I (.list (.st b))->(i:Nat)->I (b.fty i)->I (.list (.st b))
 mget:(kc vc:Ty)->I (.list (.st (.pr kc vc)))->I kc->I vc
 mput:(kc vc:Ty)->I (.list (.st (.pr kc vc)))->I kc->I vc->I (.list (.st (.pr kc vc)))
 mapE:(kc vc:Ty)->I (.list (.st (.pr kc vc)))->(I vc->M vc)->M (.list (.st (.pr kc vc)))
 cat:I .str->I .str->I .str
 slt:Bool->I .str->I .str->I .bool
 scutT:(k:IntKind)->I .str->I (.int k)->I .str
 scutD:(k:IntKind)->I .str->I (.int k)->I .str
 s2b:I .str->I (.list (.int .u8))
 b2s:I (.list (.int .u8))->I .str
 ixb:I .str->I (.int .u8)->I (.int .i64)
 cnb:I .str->I (.int .u8)->I (.int .i64)
 fitL:(e:Ty)->I (.list e)->I .bool
 fitI:(k:IntKind)->I (.int k)->I .bool
 fitS:I .str->I .bool
 ge0:(k:IntKind)->I (.int k)->I .bool
 ne0:(k:IntKind)->I (.int k)->I .bool
 leL:(e:Ty)->(k:IntKind)->I (.int k)->I (.list e)->I .bool
 leS:(k:IntKind)->I (.int k)->I .str->I .bool
 ltc:(k:IntKind)->I (.int k)->Nat->I .bool
 sameLen:(e:Ty)->I (.list e)->I (.list e)->I .bool
 ret:(c:Ty)->I c->M c
 fail:(c:Ty)->String->M c
 chk:(c:Ty)->I .bool->M c->M c
 ite:(c:Ty)->I .bool->M c->M c->M c
 bind:(a c:Ty)->M a->(I a->M c)->M c
 lets:(a c:Ty)->I a->(I a->M c)->M c
 idx:(e:Ty)->(k:IntKind)->I (.list e)->I (.int k)->M e
 aidx:(n:Nat)->(e:Ty)->(k:IntKind)->I (.arr n e)->I (.int k)->M e
 sidx:(k:IntKind)->I .str->I (.int k)->M (.int .u8)
 jn:(s c:Ty)->(I s->M c)->((I s->M c)->M c)->M c
 loop:(s x:Ty)->I s->(I s->M (.sum x s))->M x
 case:(a b c:Ty)->I (.sum a b)->(I a->M c)->(I b->M c)->M c
 both:(c:Ty)->M c->M c->M c
def G9 {α:Type} (f:α->α):List α->List α
 | []=>[]
 | [y]=>[f y]
 | y :: z :: l=>y :: G9 f (z :: l)
def Ow (op:BinOp) (k:IntKind) (a b:Int):Int :=
 match op,k with
 | .add,.i64=>w64 (a+b)
 | .sub,.i64=>w64 (a-b)
 | .mul,.i64=>w64 (a*b)
 | .quo,.i64=>w64 (a.tdiv b)
 | .add,k=>k.wrap (a+b)
 | .sub,k=>k.wrap (a-b)
 | .mul,k=>k.wrap (a*b)
 | .quo,k=>k.wrap (a.tdiv b)
 | .rem,_=>a.tmod b
 | op,k=>G8 op k a b
def A0b (op:BinOp) (a b:Int):Bool :=
 match op with
 | .eql=>a==b
 | .neq=>a != b
 | .lss=>decide (a<b)
 | .leq=>decide (a<=b)
 | .gtr=>decide (b<a)
 | _=>decide (b<=a)
def A34 (k':IntKind) (a:Int):Int:=match k' with | .i64=>w64 a | k'=>k'.wrap a
def B6x (k:IntKind) (a:Int):Int:=match k with | .i64=>w64 (0-a) | k=>k.wrap (0-a)
def U5 (s:List UInt8) (i:Int):Option Int:=(idx s i).bind λc=>some (c.toNat:Int)
def B6y:List UInt8->List UInt8->Bool
 | _,[]=>false
 | [],_ :: _=>true
 | x :: xs,y :: ys=>decide (x<y) || (x==y&&B6y xs ys)
def En (l:List Int):List UInt8:=l.map λn=>UInt8.ofNat n.toNat
def J7 (s:List UInt8):List Int:=s.map λc=>(c.toNat:Int)
def V2 (x:Int):Bool:=decide (0<=x)&&decide (x<=(LIM:Int))
def leT (i:Int) (n:Nat):Bool:=decide (0<=i)&&decide (i.toNat<=n)
def Dn (i:Int) (n:Nat):Bool:=decide (0<=i)&&decide (i<(n:Int))
def Cm (i:Int):Bool:=decide (0<=i)
def D1 {α β γ:Type} (x:α⊕β) (f:α->γ) (g:β->γ):γ:=match x with | .inl a=>f a | .inr b=>g b
def Eo {α β:Type} (h:β->Option β):List (α×β)->Option (List (α×β))
 | []=>some []
 | p :: l=>(h p.2).bind λv=>(Eo h l).bind λr=>some ((p.1,v) :: r)
def loopF (tb:S->Option (X⊕S)) (s:S):Option X:=K5 tb 1099511627776 s
theorem A6m {tb:S->Option (X⊕S)} {s:S} {x:X} (h:loopF tb s=some x):Vc.loop tb s=some x:=Rn h
@[reducible] noncomputable def typ:Alg where
 I:=Ty.T
 M:=λc=>Option c.T
 dflt:=Ty.dflt
 kb:=λb=>b
 ki:=λ_ n=>n
 ks:=λs=>s
 un:=()
 zero:=Ty.zero
 pr:=λ_ _ x y=>(x,y)
 fst:=λ_ _ x=>x.1
 snd:=λ_ _ x=>x.2
 st:=λ_ x=>x
 fld:=λb x i=>b.fget x i
 fset:=λb x i y=>b.fset x i y
 inl:=λ_ _ x => .inl x
 inr:=λ_ _ x => .inr x
 bin:=λop k x y=>Ow op k x y
 sh:=λl k _ x y => @Bool.rec (λ_=>Int) (H5 k x y) (X6 k x y) l
 cmp:=λop _ x y=>A0b op x y
 eq:=λc x y=>c.eqT x y
 not:=λx=>Bool.not x
 and:=λx y=>Bool.and x y
 or:=λx y=>Bool.or x y
 isb:=λw x => @BEq.beq Bool _ x w
 conv:=λ_ k' x=>A34 k' x
 neg:=λk x=>B6x k x
 inv:=λk x=>G8 .xor k (if k.signed then -1 else k.max) x
 mm:=λm _ x y => @Bool.rec (λ_=>Int) (U8 x y) (Bb x y) m
 len:=λ_ x=>((List.length x:Nat):Int)
 slen:=λx=>((List.length x:Nat):Int)
 lit:=λ_ l=>l
 app:=λ_ x y=>List.append x y
 setL:=λ_ _ x i y=>List.set x (Int.toNat i) y
 cutT:=λ_ _ x i=>List.take (Int.toNat i) x
 cutD:=λ_ _ x i=>List.drop (Int.toNat i) x
 repL:=λ_ _ n x=>List.replicate (Int.toNat n) x
 mkA:=λ_ _ l=>l
 setA:=λ_ _ _ x i y=>List.set x (Int.toNat i) y
 arrL:=λ_ _ x=>x
 toA:=λ_ _ x=>x
 lastF:=λb x i y=>G9 (λz=>b.fset z i y) x
 mget:=λkc vc l k=>Option.getD (Vc.mget (Ty.eqT kc) l k) vc.zero
 mput:=λkc vc l k v=>Vc.mput (Ty.eqT kc) l k v
 mapE:=λ_ _ l h=>Eo h l
 cat:=λx y=>List.append x y
 slt:=λle x y=>if le then Bool.not (B6y y x) else B6y x y
 scutT:=λ_ x i=>List.take (Int.toNat i) x
 scutD:=λ_ x i=>List.drop (Int.toNat i) x
 s2b:=λx=>J7 x
 b2s:=λx=>En x
 ixb:=λx c=>Lib.indexByte x (UInt8.ofNat (Int.toNat c))
 cnb:=λx c=>((Lib.countByte x (UInt8.ofNat (Int.toNat c)):Nat):Int)
 fitL:=λ_ x=>decide (List.length x<=LIM)
 fitI:=λ_ x=>V2 x
 fitS:=λx=>decide (List.length x<=LIM)
 ge0:=λ_ x=>Cm x
 ne0:=λ_ x => @bne Int _ x 0
 leL:=λ_ _ i x=>leT i (List.length x)
 leS:=λ_ i x=>leT i (List.length x)
 ltc:=λ_ i m=>Dn i m
 sameLen:=λ_ x y=>decide (List.length x=List.length y)
 ret:=λ_ x=>some x
 fail:=λ_ _=>none
 chk:=λ_ b k=>Vc.chk b k
 ite:=λ_ b x y => @_root_.ite _ (@Eq Bool b true) (instDecidableEqBool b true) x y
 bind:=λ_ _ m f=>Option.bind m f
 lets:=λ_ _ x f=>f x
 idx:=λ_ _ x i=>Vc.idx x i
 aidx:=λ_ _ _ x i=>Vc.idx x i
 sidx:=λ_ x i=>U5 x i
 jn:=λ_ _ rest body=>Vc.jn rest body
 loop:=λ_ _ s f=>Vc.loopF f s
 case:=λ_ _ _ x f g=>D1 x f g
 both:=λc x y=>Ty.bothT c x y
inductive TV where
 | junk | undef
 | d (c:Ty) (i:Nat)
 | kb (b:Bool) | ki (k:IntKind) (n:Int) | ks (s:List UInt8)
 | nils
 | cst (t:Nat)
 | ptr (n off:Nat) (path:List Nat)
 | eptr (n sz:Nat) (k:IntKind) (i off:Nat) (path:List Nat)
 | aptr (n off:Nat) (path:List Nat) (k:IntKind) (i sz:Nat)
 | dptr (c:Ty) (i:Nat)
 | sref (n:Nat) (c:Ty) (j:Nat)
 | qref (n j:Nat)
 | qptr (n:Nat) (k:IntKind) (i:Nat)
 | tref (n:Nat) (c:Ty) (i j:Nat)
 | func (f:FuncId) (caps:TV)
 | st (fs:TV)
 | tup (vs:TV)
 | opt (g:Nat) (want:Bool) (x:TV)
 | mref (n:Nat)
 | alt (g:Nat) (x y:TV)
 | nil
 | cons (a b:TV)
 deriving Inhabited,Repr
inductive TOb where
 | box (t:TypeId) (x:TV)
 | row (e:TypeId) (c:Ty) (i:Nat)
 | map (kc vc:Ty) (i:Nat)
 | glob (g:Nat) (c:Ty) (i:Nat)
 | vrow (e:TypeId) (c:Ty) (j pos:Nat) (x:TV)
 | qrow (e:TypeId) (j:Nat)
 deriving Inhabited,Repr
class Hid where
 pre:List Int
instance hid0:Hid:=⟨[]⟩
def Bk:Nat->Value
 | 0 => .pointer none
 | 1 => .nilIface
 | 2 => .map none
 | _ => .nilFunc
def Ox:Nat->Value->Prop
 | 0,v=>∃ b,v = .bool b
 | _,v=>∃ n,v = .int .i64 n
def Ha:Nat->V
 | 4 => .sat (Ox 0)
 | 5 => .sat (Ox 1)
 | t => .cst (Bk t)
theorem B1z (t:Nat):(Ha t).sz=1:=by unfold Ha;split<;>rfl
theorem A6n (t:Nat):(Ha t).isAgg=false:=by unfold Ha;split<;>rfl
theorem Uw (t:Nat):(Ha t).isTop=false:=by unfold Ha;split<;>rfl
theorem A45 (t:Nat):Ha t ≠ .junk:=by unfold Ha;split<;>exact V.noConfusion
theorem Yj (t:Nat):(Ha t).names=[]:=by unfold Ha;split<;>rfl
theorem Ux (r:Nat->Nat) (t:Nat):(Ha t).ren r=Ha t:=by unfold Ha;split<;>rfl
abbrev Val:=(c:Ty)->Nat->c.T
namespace TV
def vs [Hid] (f:Val):TV->List V
 | junk=>[.junk]
 | undef=>[.opt false .junk]
 | d c i=>[.d (c.enc (f c i))]
 | kb b=>[.d (.bool b)]
 | ki k n=>[.d (.int k n)]
 | ks s=>[.d (.str s)]
 | nils=>[.nils]
 | cst t=>[Ha t]
 | ptr n o p=>[.ptr n o p]
 | eptr n sz k i o p=>[.ptr n (Int.toNat (f (.int k) i)*sz+o) (Int.toNat (f (.int k) i) :: p)]
 | aptr n o p k i sz=>[.ptr n (o+Int.toNat (f (.int k) i)*sz) (p++[Int.toNat (f (.int k) i)])]
 | dptr c i=>[.dptr (c.enc (f c i))]
 | sref n c j=>[.sref n c.sz 0 (List.length (f (.list c) j))]
 | qref n j=>[.sref n 1 (List.length Hid.pre) (List.length (f (.list (.int .i64)) j))]
 | qptr n k i=>[.ptr n ((List.length Hid.pre+Int.toNat (f (.int k) i))*1) [List.length Hid.pre+Int.toNat (f (.int k) i)]]
 | tref n c i j=>[.sref n c.sz (Int.toNat (f (.int .i64) i)) (List.length (f (.list c) j))]
 | func g caps=>[.func g (caps.vs f)]
 | st fs=>[.st (fs.vs f)]
 | tup xs=>[.tup (xs.vs f)]
 | opt g want x=>[.opt (@BEq.beq Bool _ (f .bool g) want) ((x.vs f).headD .junk)]
 | mref n=>[.mref n]
 | alt g x y=>[@cond V (f .bool g) ((x.vs f).headD .junk) ((y.vs f).headD .junk)]
 | nil=>[]
 | cons a b=>(a.vs f).headD .junk :: b.vs f
def v [Hid] (f:Val) (x:TV):V:=(x.vs f).headD .junk
def lt (n:Nat):TV->Bool
 | d _ i=>Nat.blt i n
 | eptr _ _ _ i _ _=>Nat.blt i n
 | aptr _ _ _ _ i _=>Nat.blt i n
 | dptr _ i=>Nat.blt i n
 | sref _ _ j=>Nat.blt j n
 | qref _ j=>Nat.blt j n
 | qptr _ _ i=>Nat.blt i n
 | tref _ _ i j=>Nat.blt i n&&Nat.blt j n
 | func _ caps=>caps.lt n
 | st fs=>fs.lt n
 | tup xs=>xs.lt n
 | opt g _ x=>Nat.blt g n&&x.lt n
 | cons a b=>a.lt n&&b.lt n
 | alt g x y=>Nat.blt g n&&(x.lt n&&y.lt n)
 | _=>true
theorem C2 {a b:Nat} (h:Nat.blt a b=true):a<b:=Nat.lt_of_succ_le (Nat.le_of_ble_eq_true h)
theorem I7 {a b:Nat} (h:a<b):Nat.blt a b=true:=Nat.ble_eq_true_of_le h
theorem W3 [Hid] {f g:Val} {n:Nat} (h:∀ c i,i<n->f c i=g c i):∀ {x:TV},x.lt n=true->x.vs f=x.vs g
 | junk,_ | undef,_ | kb _,_ | ki _ _,_ | ks _,_ | nils,_ | cst _,_ | ptr _ _ _,_ | mref _,_ | nil,_=>rfl
 | d c i,hl | dptr c i,hl=>by simp only [vs,h c i (C2 hl)]
 | eptr _ _ k i _ _,hl=>by simp only [vs,h _ i (C2 hl)]
 | aptr _ _ _ k i _,hl=>by simp only [vs,h _ i (C2 hl)]
 | sref _ c j,hl=>by simp only [vs,h _ j (C2 hl)]
 | qref _ j,hl=>by simp only [vs,h _ j (C2 hl)]
 | qptr _ k i,hl=>by simp only [vs,h _ i (C2 hl)]
 | tref _ c i j,hl=>by
  simp only [lt,Bool.and_eq_true] at hl;simp only [vs,h _ i (C2 hl.1),h _ j (C2 hl.2)]
 | func _ caps,hl=>by simp only [vs,W3 h (x:=caps) hl]
 | st fs,hl=>by simp only [vs,W3 h (x:=fs) hl]
 | tup xs,hl=>by simp only [vs,W3 h (x:=xs) hl]
 | opt g _ x,hl=>by
  simp only [lt,Bool.and_eq_true] at hl;simp only [vs,h _ g (C2 hl.1),W3 h hl.2]
 | alt g x y,hl=>by
  simp only [lt,Bool.and_eq_true] at hl;simp only [vs,h _ g (C2 hl.1),W3 h hl.2.1,W3 h hl.2.2]
 | cons a b,hl=>by
  simp only [lt,Bool.and_eq_true] at hl;simp only [vs,W3 h hl.1,W3 h hl.2]
theorem Hj [Hid] {f g:Val} {n:Nat} (h:∀ c i,i<n->f c i=g c i) {x:TV} (hl:x.lt n=true):x.v f=x.v g:=by simp only [v,W3 h hl]
theorem O5 {n m:Nat} (h:n<=m):∀ {x:TV},x.lt n=true->x.lt m=true
 | junk,_ | undef,_ | kb _,_ | ki _ _,_ | ks _,_ | nils,_ | cst _,_ | ptr _ _ _,_ | mref _,_ | nil,_=>rfl
 | d _ _,hl | dptr _ _,hl | eptr _ _ _ _ _ _,hl | aptr _ _ _ _ _ _,hl | sref _ _ _,hl | qref _ _,hl | qptr _ _ _,hl=>I7 (Nat.lt_of_lt_of_le (C2 hl) h)
 | tref ..,hl=>by
  simp only [lt,Bool.and_eq_true] at hl ⊢;exact⟨I7 (Nat.lt_of_lt_of_le (C2 hl.1) h),I7 (Nat.lt_of_lt_of_le (C2 hl.2) h)⟩
 | func _ caps,hl=>O5 h (x:=caps) hl
 | st fs,hl=>O5 h (x:=fs) hl
 | tup xs,hl=>O5 h (x:=xs) hl
 | alt g x y,hl=>by
  simp only [lt,Bool.and_eq_true] at hl ⊢;exact⟨I7 (Nat.lt_of_lt_of_le (C2 hl.1) h),O5 h hl.2.1,O5 h hl.2.2⟩
 | opt _ _ x,hl | cons _ x,hl=>by
  simp only [lt,Bool.and_eq_true] at hl ⊢
  first
   | exact⟨I7 (Nat.lt_of_lt_of_le (C2 hl.1) h),O5 h hl.2⟩
   | exact⟨O5 h hl.1,O5 h hl.2⟩
end TV
def Ab (pos:Nat) (v:V):V->V
 | .d (.st ds) => .st ((ds.map V.d).set pos v)
 | y=>y
def U6 {α β:Type} (f g:α->β):List α->List β
 | []=>[]
 | [y]=>[g y]
 | y :: z :: l=>f y :: U6 f g (z :: l)
theorem V8 {α β:Type} {f g:α->β}:∀ l:List α,(U6 f g l).length=l.length
 | []=>rfl
 | [_]=>rfl
 | _ :: z :: l=>by simp only [U6,List.length_cons,V8 (z :: l)]
theorem Dz {α:Type} {f:α->α}:∀ l:List α,(G9 f l).length=l.length
 | []=>rfl
 | [_]=>rfl
 | _ :: z :: l=>by simp only [G9,List.length_cons,Dz (z :: l)]
theorem Pr {α β γ:Type} {f g:α->β} {h:β->γ}:∀ l:List α,(U6 f g l).map h=U6 (λy=>h (f y)) (λy=>h (g y)) l
 | []=>rfl
 | [_]=>rfl
 | _ :: z :: l=>by simp only [U6,List.map_cons,<- Pr (z :: l)]
theorem Jt {α β:Type} {f f' g g':α->β} {l:List α} (h:∀ y∈l,f y=f' y∧g y=g' y):U6 f g l=U6 f' g' l:=by
 match l with
 | []=>rfl
 | [y]=>simp only [U6,(h y (List.mem_cons_self ..)).2]
 | y :: z :: l =>
  have:=Jt (l:=z :: l) λq hq=>h q (List.mem_cons_of_mem _ hq);simp only [U6,(h y (List.mem_cons_self ..)).1,this]
theorem Hk {α β:Type} {f g:α->β}:∀ {l:List α} {y:β},y∈U6 f g l->∃ z∈l,y=f z∨y=g z
 | [],_,h=>by cases h
 | [z],y,h=>by
  simp only [U6,List.mem_singleton] at h;exact⟨z,List.mem_cons_self ..,.inr h⟩
 | z :: z' :: l,y,h=>by
  simp only [U6] at h;rcases List.mem_cons.1 h with h | h
  ·exact⟨z,List.mem_cons_self ..,.inl h⟩
  ·obtain⟨q,h1,h2⟩:=Hk (l:=z' :: l) h;exact⟨q,List.mem_cons_of_mem _ h1,h2⟩
def H0 (c:Ty) (pos:Nat) (v:V) (l:List c.T):List V:=U6 (λy => .d (c.enc y)) (λy=>Ab pos v (.d (c.enc y))) l
namespace TOb
def o [Hid] (f:Val):TOb->Ob
 | box t x => .box t (x.v f)
 | row e c i => .row e c.sz (List.map c.enc (f (.list c) i))
 | map kc vc i => .blk (Y3 (D4 kc.enc vc.enc (f (.list (.st (.pr kc vc))) i)))
 | glob g c i => .know (L2 g (c.enc (f c i)))
 | vrow e c j pos x => .vrow e c.sz (H0 c pos (x.v f) (f (.list c) j))
 | qrow e j => .row e 1 (List.map (Ty.enc (.int .i64)) (Hid.pre++f (.list (.int .i64)) j))
def lt (n:Nat):TOb->Bool
 | box _ x=>x.lt n
 | row _ _ i=>Nat.blt i n
 | map _ _ i=>Nat.blt i n
 | glob _ _ i=>Nat.blt i n
 | vrow _ _ j _ x=>Nat.blt j n&&x.lt n
 | qrow _ j=>Nat.blt j n
theorem Ez [Hid] {f g:Val} {n:Nat} (h:∀ c i,i<n->f c i=g c i):∀ {x:TOb},x.lt n=true->x.o f=x.o g
 | box _ x,hl=>by simp only [o,TV.Hj h (x:=x) hl]
 | row _ c i,hl=>by simp only [o,h _ i (TV.C2 hl)]
 | map kc vc i,hl=>by simp only [o,h (.list (.st (.pr kc vc))) i (TV.C2 hl)]
 | glob g c i,hl=>by simp only [o,h c i (TV.C2 hl)]
 | vrow e c j pos x,hl=>by
  simp only [lt,Bool.and_eq_true] at hl;simp only [o,h _ j (TV.C2 hl.1),TV.Hj h (x:=x) hl.2]
 | qrow e j,hl=>by simp only [o,h _ j (TV.C2 hl)]
end TOb
def C2o:Unit:=let _:=@Go.execOp;()
abbrev Lf (A:Alg):=(c:Ty)×A.I c
structure St (A:Alg) where
 E:List (Nat×TV)
 O:List (Nat×Option TOb)
 L:List (Nat×Lf A)
 nl:Nat
 nx:Nat
namespace St
variable {A:Alg}
def lvL (A:Alg) (L:List (Nat×Lf A)) (c:Ty) (i:Nat):A.I c :=
 let _:=C2o
 match A1 L i with
 | some ⟨c',x⟩=>match instDecidableEqTy c' c with
  | .isTrue h=>h ▸ x
  | .isFalse _=>A.dflt c
 | none=>A.dflt c
def lv (S:St A) (c:Ty) (i:Nat):A.I c:=lvL A S.L c i
def pushL (n:Nat):List (Lf A)->List (Nat×Lf A)->List (Nat×Lf A)
 | [],L=>L
 | x :: l,L=>pushL (n+1) l ((n,x) :: L)
def ltE (n:Nat):List (Nat×TV)->Bool
 | []=>true
 | p :: l=>p.2.lt n&&ltE n l
def ltO (n:Nat):List (Nat×Option TOb)->Bool
 | []=>true
 | p :: l=>(match p.2 with | some o=>o.lt n | none=>true)&&ltO n l
def ok (S:St A):Prop:=ltE S.nl S.E=true∧ltO S.nl S.O=true
end St
def eOf [Hid] (f:Val) (E:List (Nat×TV)):EL:=E.map λp=>(p.1,p.2.v f)
def oOf [Hid] (f:Val) (O:List (Nat×Option TOb)):OL:=O.map λp=>(p.1,p.2.map (TOb.o f))
noncomputable def St.e [Hid] (S:St typ):EL:=eOf S.lv S.E
noncomputable def St.o [Hid] (S:St typ):OL:=oOf S.lv S.O
theorem N4 {α β:Type} (g:α->β) (k:Nat):∀ l:List (Nat×α),A1 (l.map λp=>(p.1,g p.2)) k=(A1 l k).map g
 | []=>rfl
 | (j,x) :: l=>by
  rw [List.map_cons,A4,A4];split
  ·rfl
  ·exact N4 g k l
theorem K8 [Hid] (S:St typ) (t:Nat):A1 S.e t=(A1 S.E t).map (TV.v S.lv):=N4 _ t S.E
theorem F4 [Hid] (S:St typ) (n:Nat):A1 S.o n=(A1 S.O n).map (Option.map (TOb.o S.lv)):=N4 _ n S.O
theorem Gd [Hid] {f g:Val} {n:Nat} (h:∀ c i,i<n->f c i=g c i):∀ {E:List (Nat×TV)},St.ltE n E=true->eOf f E=eOf g E
 | [],_=>rfl
 | p :: l,hl=>by
  simp only [St.ltE,Bool.and_eq_true] at hl;have:=Gd h (E:=l) hl.2;simp only [eOf] at this ⊢;simp only [List.map_cons,TV.Hj h hl.1,this]
theorem Da [Hid] {f g:Val} {n:Nat} (h:∀ c i,i<n->f c i=g c i):∀ {O:List (Nat×Option TOb)},St.ltO n O=true->oOf f O=oOf g O
 | [],_=>rfl
 | (k,none) :: l,hl=>by
  simp only [St.ltO,Bool.and_eq_true] at hl;have:=Da h (O:=l) hl.2;simp only [oOf] at this ⊢;rw [List.map_cons,List.map_cons,this];rfl
 | (k,some x) :: l,hl=>by
  simp only [St.ltO,Bool.and_eq_true] at hl;have:=Da h (O:=l) hl.2;simp only [oOf] at this ⊢;rw [List.map_cons,List.map_cons,this];simp only [Option.map,TOb.Ez h hl.1]
theorem U1 {n m:Nat} (h:n<=m):∀ {E:List (Nat×TV)},St.ltE n E=true->St.ltE m E=true
 | [],_=>rfl
 | p :: l,hl=>by
  simp only [St.ltE,Bool.and_eq_true] at hl ⊢;exact⟨TV.O5 h hl.1,U1 h hl.2⟩
theorem J9 {n m:Nat} (h:n<=m):∀ {O:List (Nat×Option TOb)},St.ltO n O=true->St.ltO m O=true
 | [],_=>rfl
 | (k,none) :: l,hl=>by
  simp only [St.ltO,Bool.and_eq_true] at hl ⊢;exact⟨trivial,J9 h hl.2⟩
 | (k,some (.box _ x)) :: l,hl=>by
  simp only [St.ltO,Bool.and_eq_true] at hl ⊢;exact⟨TV.O5 h (x:=x) hl.1,J9 h hl.2⟩
 | (k,some (.row _ _ i)) :: l,hl=>by
  simp only [St.ltO,Bool.and_eq_true] at hl ⊢;exact⟨TV.I7 (Nat.lt_of_lt_of_le (TV.C2 hl.1) h),J9 h hl.2⟩
 | (k,some (.map _ _ i)) :: l,hl=>by
  simp only [St.ltO,Bool.and_eq_true] at hl ⊢;exact⟨TV.I7 (Nat.lt_of_lt_of_le (TV.C2 hl.1) h),J9 h hl.2⟩
 | (k,some (.glob _ _ i)) :: l,hl=>by
  simp only [St.ltO,Bool.and_eq_true] at hl ⊢;exact⟨TV.I7 (Nat.lt_of_lt_of_le (TV.C2 hl.1) h),J9 h hl.2⟩
 | (k,some (.qrow _ i)) :: l,hl=>by
  simp only [St.ltO,Bool.and_eq_true] at hl ⊢;exact⟨TV.I7 (Nat.lt_of_lt_of_le (TV.C2 hl.1) h),J9 h hl.2⟩
 | (k,some (.vrow _ _ i _ x)) :: l,hl=>by
  simp only [St.ltO,TOb.lt,Bool.and_eq_true] at hl ⊢;exact⟨⟨TV.I7 (Nat.lt_of_lt_of_le (TV.C2 hl.1.1) h),TV.O5 h (x:=x) hl.1.2⟩,J9 h hl.2⟩
theorem B20 (L:List (Nat×Lf typ)) (n:Nat) (c:Ty) (x:c.T):St.lvL typ ((n,⟨c,x⟩) :: L) c n=x:=by
 unfold St.lvL;rw [A4,if_pos rfl];dsimp only;generalize instDecidableEqTy c c=d;cases d with
 | isTrue h=>rfl
 | isFalse h=>exact absurd rfl h
theorem A6o (L:List (Nat×Lf typ)) {n i:Nat} (h:n≠i) (p:Lf typ) (c:Ty):St.lvL typ ((n,p) :: L) c i=St.lvL typ L c i:=by
 simp [St.lvL,A4,h]
theorem Db (l:List (Lf typ)):∀ (n:Nat) (L:List (Nat×Lf typ)) (c:Ty) (i:Nat),i<n->St.lvL typ (St.pushL n l L) c i=St.lvL typ L c i:=by
 induction l with
 | nil=>intro n L c i h;rfl
 | cons x l ih=>intro n L c i h;rw [St.pushL,ih _ _ _ _ (by omega),A6o _ (by omega)]
theorem Yk (l:List (Lf typ)):∀ (n:Nat) (L:List (Nat×Lf typ)) (k:Nat) (c:Ty) (x:c.T),l[k]? = some ⟨c,x⟩->St.lvL typ (St.pushL n l L) c (n+k)=x:=by
 induction l with
 | nil=>intro n L k c x h;simp at h
 | cons y l ih =>
  intro n L k c x h;cases k with
  | zero =>
   simp at h;subst h;rw [St.pushL,Db _ _ _ _ _ (by omega)];exact B20 _ _ _ _
  | succ k =>
   rw [St.pushL,show n+(k+1)=n+1+k from by omega];exact ih _ _ k c x (by simpa using h)
end Go.Vc
namespace Go.Vc
open Go
structure Out where
 nt:List Nat:=[]
 no:List Nat:=[]
 nf:List Nat:=[]
 wt:List (Nat×TV):=[]
 wo:List (Nat×Option TOb):=[]
inductive Stp (A:Alg)
 | pure (lf:List (Lf A)) (o:Out)
 | chk (b:A.I .bool) (lf:List (Lf A)) (o:Out)
 | bind (c:Ty) (m:A.M c) (lf:A.I c->List (Lf A)) (o:Out)
section
variable {A:Alg}
def rdk:Operand->List Nat
 | .tmp t=>[t]
 | _=>[]
def St.op (S:St A):Operand->Option TV
 | .tmp t=>A1 S.E t
 | .const (.int k n)=>some (.ki k n)
 | .const (.bool b)=>some (.kb b)
 | .const (.slice none 0 0)=>some .nils
 | .const (.string b)=>some (.ks b.data.toList)
 | .const (.pointer none)=>some (.cst 0)
 | .const .nilIface=>some (.cst 1)
 | .const (.map none)=>some (.cst 2)
 | .const .nilFunc=>some (.cst 3)
 | .func f=>some (.func f .nil)
 | _=>some .junk
def St.exact(S:St A) (c:Ty):TV->Option (A.I c)
 | .d c' i=>if c'=c then some (S.lv c i) else none
 | .kb b=>if h:Ty.bool=c then some (h ▸ A.kb b) else none
 | .ki k n=>if h:Ty.int k=c then some (h ▸ A.ki k n) else none
 | .ks s=>if h:Ty.str=c then some (h ▸ A.ks s) else none
 | _=>none
def TV.isNil:TV->Bool
 | .nil=>true
 | _=>false
def St.asD (S:St A):TV->(c:Ty)->Option (A.I c)
 | .d c' i,c=>if c'=c∧c.dat false=true then some (S.lv c i) else none
 | .kb b,.bool=>some (A.kb b)
 | .ki k n,.int k'=>if h:k=k' then some (h ▸ A.ki k n) else none
 | .ks s,.str=>some (A.ks s)
 | .nils,.list e=>some (A.lit e [])
 | .st fs,.st b=>(asD S fs b).map (A.st b)
 | .nil,.nil=>some A.un
 | .cons a b,c=>match c with
  | .pr p q=>(asD S a p).bind λx=>(asD S b q).map λy=>A.pr p q x y
  | c=>if (b.isNil&&c.dat false)=true then asD S a c else none
 | _,_=>none
def Dp:TV->Option Ty
 | .d c _=>some c
 | .kb _=>some .bool
 | .ki k _=>some (.int k)
 | .ks _=>some .str
 | _=>none
def St.anyI (S:St A) (x:Operand):Option ((k:IntKind)×A.I (.int k)) :=
 match S.op x with
 | some (.d (.int k) i)=>some ⟨k,S.lv (.int k) i⟩
 | some (.ki k n)=>some ⟨k,A.ki k n⟩
 | _=>none
def St.leaf1 (S:St A) (d:Nat) (nt no:List Nat) (c:Ty) (x:A.I c):Stp A:=.pure [⟨c,x⟩] { nt,no,wt:=[(d,.d c S.nl)] }
end
def on (x:Operand) (v:V):EL:=match x with | .tmp t=>[(t,v)] | _=>[]
noncomputable def St.push (S:St typ) (lf:List (Lf typ)):Val:=λc i=>St.lvL typ (St.pushL S.nl lf S.L) c i
section
variable {P:Program} {B:D5} {ops:Array Oper} {S:St typ}
variable {x:Operand} {tx:TV} {c:Ty}
theorem D6 {α:Type} (a b:List (Nat×α)):B8 (a++b)=B8 a++B8 b:=by simp [B8]
theorem C5 (x:Operand) (v:V):B8 (on x v)=rdk x:=by unfold on rdk;split<;>rfl
theorem E4 [Hid] {E:EL} {a b:EL} (h:rE E a=rE' a) (k:rE E b=rE' b):rE E (a++b)=rE' (a++b):=by
 rw [Lo,Ey] at *;rw [List.map_append,List.map_append,h,k]
theorem Opd.cst (v:Value) (h:v.oneCell'=true):Opd (.const v) (.cst v) []:=λB env ob a w σ Z s hn=>by
 show F3 ob σ Z w v (.cst v);unfold F3;rw [if_neg (by simp [V.isAgg])];exact⟨⟨rfl,h⟩,.inr h⟩
theorem B6 [Hid] {x:Operand} {tx:TV} (h:S.op x=some tx):Opd x (tx.v S.lv) (on x (tx.v S.lv))∧rE S.e (on x (tx.v S.lv))=rE' (on x (tx.v S.lv)):=by
 unfold St.op at h;split at h
 ·refine⟨Opd.tmp _ _,?_⟩;simp only [on,rE,rE',K8,h,Option.map_some]
 ·cases h;exact⟨Opd.int _ _,rfl⟩
 ·cases h;exact⟨Opd.bool _,rfl⟩
 ·cases h;exact⟨Opd.nils,rfl⟩
 ·cases h;exact⟨Opd.str _ _ (by simp),rfl⟩
 ·cases h;exact⟨Opd.cst _ rfl,rfl⟩
 ·cases h;exact⟨Opd.cst _ rfl,rfl⟩
 ·cases h;exact⟨Opd.cst _ rfl,rfl⟩
 ·cases h;exact⟨Opd.cst _ rfl,rfl⟩
 ·cases h;exact⟨Opd.func _,rfl⟩
 ·cases h;rename_i h1 _ _ _ _ _ _ _ _ _;cases x with
  | tmp t=>exact absurd rfl (h1 t)
  | _=>exact⟨Opd.junk _,rfl⟩
theorem S5 {n k:Nat} {x:TV}:∀ {E:List (Nat×TV)},St.ltE n E=true->A1 E k=some x->x.lt n=true
 | [],_,h=>by simp [A1] at h
 | (j,y) :: l,hl,h=>by
  simp only [St.ltE,Bool.and_eq_true] at hl;rw [A4] at h;split at h
  ·cases h;exact hl.1
  ·exact S5 hl.2 h
theorem F5 {n k:Nat} {x:TOb}:∀ {O:List (Nat×Option TOb)},St.ltO n O=true->A1 O k=some (some x)->x.lt n=true
 | [],_,h=>by simp [A1] at h
 | (j,y) :: l,hl,h=>by
  simp only [St.ltO,Bool.and_eq_true] at hl;rw [A4] at h;split at h
  ·cases h;exact hl.1
  ·exact F5 hl.2 h
theorem Al (hS:S.ok) (h:S.op x=some tx):tx.lt S.nl=true:=by
 unfold St.op at h;split at h
 ·exact S5 hS.1 h
 all_goals (cases h;rfl)
theorem D8 {lf:List (Lf typ)} (c:Ty) (i:Nat) (h:i<S.nl):S.push lf c i=S.lv c i:=Db _ _ _ _ _ h
theorem Rq {lf:List (Lf typ)} {k:Nat} {c:Ty} {x:c.T} (h:lf[k]? = some ⟨c,x⟩):S.push lf c (S.nl+k)=x:=Yk _ _ _ _ _ _ h
theorem F6 {c:Ty} {x:c.T} {l:List (Lf typ)}:S.push (⟨c,x⟩ :: l) c S.nl=x:=Rq (k:=0) rfl
theorem M8 [Hid] {lf:List (Lf typ)} {x:TV} (h:x.lt S.nl=true):x.v (S.push lf)=x.v S.lv:=TV.Hj (λc i hi=>D8 c i hi) h
def OkO [Hid] (P:Program) (B:D5) (ops:Array Oper) (o:Oper) (S:St typ) (lf:List (Lf typ)) (u:Out):Prop :=
 ∃ α:Eff,OpJ P B ops o α∧rE S.e α.nt=rE' α.nt∧rO S.o α.no=rO' α.no∧rF S.o α.nf=rF' α.nf∧α.wt=eOf (S.push lf) u.wt∧α.wo=oOf (S.push lf) u.wo∧B8 α.nt=u.nt∧B8 α.no=u.no∧α.nf=u.nf
def Stp.Ok [Hid] (P:Program) (B:D5) (ops:Array Oper) (o:Oper) (S:St typ):Stp typ->Prop
 | .pure lf u=>OkO P B ops o S lf u
 | .chk b lf u=>b=true->OkO P B ops o S lf u
 | .bind c m lf u=>∀ q,m=some q->OkO P B ops o S (lf q) u
theorem ok1 [Hid] {o:Oper} {lf:List (Lf typ)} {d:Nat} {x:Operand} {tx r:TV} {v:V} (hx:S.op x=some tx) (hv:r.v (S.push lf)=v) (h:∀ nt,Opd x (tx.v S.lv) nt->OpJ P B ops o { nt,wt:=[(d,v)] }):OkO P B ops o S lf { nt:=rdk x,wt:=[(d,r)] } :=
 ⟨_,h _ (B6 hx).1,(B6 hx).2,rfl,rfl,by simp only [eOf,List.map,hv],rfl,C5 _ _,rfl,rfl⟩
theorem ok2 [Hid] {o:Oper} {lf:List (Lf typ)} {d:Nat} {x y:Operand} {tx ty r:TV} {v:V} (hx:S.op x=some tx) (hy:S.op y=some ty) (hv:r.v (S.push lf)=v)
  (h:∀ nt nt',Opd x (tx.v S.lv) nt->Opd y (ty.v S.lv) nt'->OpJ P B ops o { nt:=nt++nt',wt:=[(d,v)] }):OkO P B ops o S lf { nt:=rdk x++rdk y,wt:=[(d,r)] } :=
 ⟨_,h _ _ (B6 hx).1 (B6 hy).1,E4 (B6 hx).2 (B6 hy).2,rfl,rfl,by simp only [eOf,List.map,hv],rfl,by rw [D6,C5,C5],rfl,rfl⟩
theorem Kk [Hid] {o:Oper} {lf:List (Lf typ)} {d n:Nat} {r:TV} {b:TOb} {v:V} (hx:S.op x=some tx) (hn:A1 S.O n=some (some b)) (hv:r.v (S.push lf)=v) (h:∀ nt,Opd x (tx.v S.lv) nt->OpJ P B ops o { nt,no:=[(n,b.o S.lv)],wt:=[(d,v)] }) :
  OkO P B ops o S lf { nt:=rdk x,no:=[n],wt:=[(d,r)] } :=
 ⟨_,h _ (B6 hx).1,(B6 hx).2,by simp only [rO,rO',F4,hn,Option.map_some],rfl,by simp only [eOf,List.map,hv],rfl,C5 _ _,rfl,rfl⟩
theorem Wy [Hid] {o:Oper} {lf:List (Lf typ)} {d n:Nat} {x y:Operand} {tx ty r:TV} {b:TOb} {v:V} (hx:S.op x=some tx) (hy:S.op y=some ty) (hn:A1 S.O n=some (some b)) (hv:r.v (S.push lf)=v)
  (h:∀ nt nt',Opd x (tx.v S.lv) nt->Opd y (ty.v S.lv) nt'->OpJ P B ops o { nt:=nt++nt',no:=[(n,b.o S.lv)],wt:=[(d,v)] }) :
  OkO P B ops o S lf { nt:=rdk x++rdk y,no:=[n],wt:=[(d,r)] } :=
 ⟨_,h _ _ (B6 hx).1 (B6 hy).1,E4 (B6 hx).2 (B6 hy).2,by simp only [rO,rO',F4,hn,Option.map_some],rfl,by simp only [eOf,List.map,hv],rfl,by rw [D6,C5,C5],rfl,rfl⟩
theorem E5 [Hid] {x:c.T} {l:List (Lf typ)}:(TV.d c S.nl).v (S.push (⟨c,x⟩ :: l)) = .d (c.enc x):=by
 simp only [TV.v,TV.vs,F6];rfl
theorem Q8 [Hid]:∀ {x:TV} {y:c.T},S.exact c x=some y->x.v S.lv = .d (c.enc y):=by
 intro x y h;unfold St.exact at h;split at h
 ·split at h
  ·rename_i e;cases h;subst e;rfl
  ·cases h
 ·split at h
  ·rename_i e;subst e;cases h;rfl
  ·cases h
 ·split at h
  ·rename_i e;subst e;cases h;rfl
  ·cases h
 ·split at h
  ·rename_i e;subst e;cases h;rfl
  ·cases h
 ·cases h
theorem Ls [Hid]:∀ {x:TV} {c:Ty} {f:Bool} {y:c.T},S.asD x c=some y->c.dat f=true->CoL (x.vs S.lv) (c.encs y)
 | .d c' i,c,f,y,h,hd=>by
  unfold St.asD at h;split at h
  ·rename_i e;obtain⟨rfl,e⟩:=e;cases h;rw [Ty.F2 e];exact CoL.cons (Co.d _) CoL.nil
  ·cases h
 | .kb b,c,f,y,h,hd=>by
  cases c<;>simp only [St.asD,reduceCtorEq] at h;cases h;exact CoL.cons (Co.d _) CoL.nil
 | .ki k n,c,f,y,h,hd=>by
  cases c<;>simp only [St.asD,reduceCtorEq] at h;split at h
  ·rename_i e;subst e;cases h;exact CoL.cons (Co.d _) CoL.nil
  ·cases h
 | .ks s,c,f,y,h,hd=>by
  cases c<;>simp only [St.asD,reduceCtorEq] at h;cases h;exact CoL.cons (Co.d _) CoL.nil
 | .nils,c,f,y,h,hd=>by
  cases c<;>simp only [St.asD,reduceCtorEq] at h;cases h;exact CoL.cons (Co.nils _) CoL.nil
 | .st fs,c,f,y,h,hd=>by
  cases c<;>simp only [St.asD,reduceCtorEq] at h;rename_i b;cases hz:S.asD fs b with
  | none=>rw [hz] at h;cases h
  | some z =>
   rw [hz] at h;cases h;exact CoL.cons (Co.st (Ls (f:=true) hz hd)) CoL.nil
 | .nil,c,f,y,h,hd=>by
  cases c<;>simp only [St.asD,reduceCtorEq] at h;exact CoL.nil
 | .cons a b,c,f,y,h,hd=>by
  have one:∀ {c:Ty} {y:c.T},S.asD a c=some y->c.dat false=true->Co (a.v S.lv) (c.enc y):=fun {c y} h hd=>by
   have:=Ls (x:=a) h hd;rw [Ty.F2 hd] at this;unfold TV.v;generalize a.vs S.lv=l at this;cases this with
   | cons p q=>cases q;exact p
  have two:∀ {c:Ty} {y:c.T},(if (b.isNil&&c.dat false)=true then S.asD a c else none)=some y->CoL ((TV.cons a b).vs S.lv) (c.encs y):=fun {c y} k=>by
   split at k
   ·rename_i e;rw [Bool.and_eq_true] at e;have hb:b = .nil:=by cases b<;>first | rfl | (exact absurd e.1 (by simp [TV.isNil]))
    subst hb;rw [Ty.F2 e.2];exact CoL.cons (one k e.2) CoL.nil
   ·cases k
  cases c with
  | pr p q =>
   simp only [Ty.dat,Bool.and_eq_true] at hd;simp only [St.asD] at h;cases h1:S.asD a p with
   | none=>rw [h1] at h;cases h
   | some z =>
    cases h2:S.asD b q with
    | none=>rw [h1,h2] at h;cases h
    | some w =>
     rw [h1,h2] at h;cases h;show CoL (TV.v S.lv a :: TV.vs S.lv b) (p.encs z++q.encs w);rw [Ty.F2 hd.1.2];exact CoL.cons (one h1 hd.1.2) (Ls h2 hd.2)
  | _=>exact two h
 | .junk,c,f,y,h,hd=>by cases c<;>simp [St.asD] at h
 | .undef,c,f,y,h,hd=>by cases c<;>simp [St.asD] at h
 | .cst _,c,f,y,h,hd=>by cases c<;>simp [St.asD] at h
 | .ptr _ _ _,c,f,y,h,hd=>by cases c<;>simp [St.asD] at h
 | .eptr ..,c,f,y,h,hd=>by cases c<;>simp [St.asD] at h
 | .aptr ..,c,f,y,h,hd=>by cases c<;>simp [St.asD] at h
 | .dptr _ _,c,f,y,h,hd=>by cases c<;>simp [St.asD] at h
 | .sref _ _ _,c,f,y,h,hd=>by cases c<;>simp [St.asD] at h
 | .func _ _,c,f,y,h,hd=>by cases c<;>simp [St.asD] at h
 | .tup _,c,f,y,h,hd=>by cases c<;>simp [St.asD] at h
 | .opt _ _ _,c,f,y,h,hd=>by cases c<;>simp [St.asD] at h
 | .mref _,c,f,y,h,hd=>by cases c<;>simp [St.asD] at h
theorem W9 [Hid] {x:TV} {y:c.T} (h:S.asD x c=some y) (hd:c.dat false=true):Co (x.v S.lv) (c.enc y):=by
 have:=Ls (x:=x) h hd;rw [Ty.F2 hd] at this;unfold TV.v;generalize x.vs S.lv=l at this;cases this with
 | cons p q=>cases q;exact p
end
end Go.Vc
namespace Go.Vc
open Go
def Kd:BinOp->Bool
 | .eql | .neq | .lss | .leq | .gtr | .geq=>true
 | _=>false
def Wz:BinOp->Bool
 | .add | .sub | .mul | .and | .or | .xor | .andNot=>true
 | _=>false
def tyB (P:Program) (t:TypeId) (n:Nat) (ag:Bool):Bool :=
 (match P.info? t with | some i=>Nat.beq i.size n | none=>false)&&(match P.underlying t with | some d => @BEq.beq Bool _ (Av d) ag | none=>false)
theorem F0 {P:Program} {t n:Nat} {ag:Bool} (h:tyB P t n ag=true):TyS P t n ag:=by
 unfold tyB at h;rw [Bool.and_eq_true] at h;obtain⟨h1,h2⟩:=h;constructor
 ·split at h1
  ·rename_i i hi;rw [hi];exact congrArg some (Nat.eq_of_beq_eq_true h1)
  ·cases h1
 ·split at h2
  ·rename_i d hd;rw [hd];exact congrArg some (by simpa using h2)
  ·cases h2
section
variable {A:Alg}
def B3n (S:St A) (d:Nat) (x:Operand):Option (Stp A) :=
 match S.op x with
 | some tx=>some (.pure [] { nt:=rdk x,wt:=[(d,tx)] })
 | none=>none
def A9g (S:St A) (d:Nat) (op:BinOp) (x y:Operand):Option (Stp A) :=
 match S.op x,S.op y with
 | some (.ki k m),some (.ki k' n) =>
  bif decide (k'=k) then
   bif Kd op then some (.pure [] { nt:=rdk x++rdk y,wt:=[(d,.kb (A0b op m n))] })
   else bif Wz op then some (.pure [] { nt:=rdk x++rdk y,wt:=[(d,.ki k (Ow op k m n))] })
   else none
  else none
 | _,_=>none
def Nm (S:St A) (d:Nat) (op:BinOp) (x y:Operand):Option (Stp A) :=
 match S.anyI x,S.anyI y with
 | some ⟨k,a⟩,some ⟨k',b⟩ =>
  match op with
  | .shl=>sh true k k' a b
  | .shr=>sh false k k' a b
  | op=>if h:k'=k then
    let b:A.I (.int k):=h ▸ b
    bif Kd op then some (S.leaf1 d (rdk x++rdk y) [] .bool (A.cmp op k a b))
    else bif Wz op then some (S.leaf1 d (rdk x++rdk y) [] (.int k) (A.bin op k a b))
    else match S.op y with
     | some (.ki _ n)=>bif n != 0 then some (S.leaf1 d (rdk x++rdk y) [] (.int k) (A.bin op k a b)) else none
     | _=>some (.chk (A.ne0 k b) [⟨.int k,A.bin op k a b⟩] { nt:=rdk x++rdk y,wt:=[(d,.d (.int k) S.nl)] })
   else none
 | _,_=>none
where sh (l:Bool) (k k':IntKind) (a:A.I (.int k)) (b:A.I (.int k')):Option (Stp A) :=
 match S.op y with
 | some (.ki _ n)=>bif decide (0<=n) then some (S.leaf1 d (rdk x++rdk y) [] (.int k) (A.sh l k k' a b)) else none
 | _=>some (.chk (A.ge0 k' b) [⟨.int k,A.sh l k k' a b⟩] { nt:=rdk x++rdk y,wt:=[(d,.d (.int k) S.nl)] })
def A0c (P:Program) (S:St A) (d:Nat) (op:BinOp) (xt:TypeId) (x y:Operand):Option (Stp A) :=
 match P.underlying xt,S.op x,S.op y with
 | some .bool,some tx,some ty=>match S.exact .bool tx,S.exact .bool ty with
  | some a,some b=>match op with
   | .eql=>some (S.leaf1 d (rdk x++rdk y) [] .bool (A.eq .bool a b))
   | .neq=>some (S.leaf1 d (rdk x++rdk y) [] .bool (A.not (A.eq .bool a b)))
   | _=>none
  | _,_=>none
 | _,_,_=>none
def B6z (S:St A) (d:Nat) (op:UnOp) (x:Operand):Option (Stp A) :=
 match op,S.op x with
 | .not,some (.kb b)=>some (.pure [] { nt:=rdk x,wt:=[(d,.kb (!b))] })
 | .not,some (.d .bool i)=>some (S.leaf1 d (rdk x) [] .bool (A.not (S.lv .bool i)))
 | .neg,_=>match S.anyI x with
  | some ⟨k,a⟩=>some (S.leaf1 d (rdk x) [] (.int k) (A.neg k a))
  | none=>none
 | .xor,_=>match S.anyI x with
  | some ⟨k,a⟩=>some (S.leaf1 d (rdk x) [] (.int k) (A.inv k a))
  | none=>none
 | _,_=>none
def A0d (P:Program) (S:St A) (d:Nat) (src dst:TypeId) (x:Operand):Option (Stp A) :=
 match S.anyI x,P.underlying src,P.underlying dst with
 | some ⟨k,a⟩,some _,some (.int k')=>match S.op x with
  | some (.ki _ n)=>some (.pure [] { nt:=rdk x,wt:=[(d,.ki k' (A34 k' n))] })
  | _=>some (S.leaf1 d (rdk x) [] (.int k') (A.conv k k' a))
 | _,_,_=>none
def A0e (S:St A) (d:Nat) (c x y:Operand):Option (Stp A) :=
 match S.op c with
 | some (.kb true)=>match S.op x with
  | some tx=>some (.pure [] { nt:=rdk c++rdk x,wt:=[(d,tx)] })
  | none=>none
 | some (.kb false)=>match S.op y with
  | some ty=>some (.pure [] { nt:=rdk c++rdk y,wt:=[(d,ty)] })
  | none=>none
 | some (.d .bool i)=>match x,y with
  | .const (.bool true),y=>match S.op y with
   | some (.opt g false z)=>bif Nat.beq g i then
     match S.exact .bool z with
     | some e=>some (S.leaf1 d (rdk c++rdk y) [] .bool (A.or (S.lv .bool i) e))
     | none=>none
    else none
   | _=>none
  | x,.const (.bool false)=>match S.op x with
   | some (.opt g true z)=>bif Nat.beq g i then
     match S.exact .bool z with
     | some e=>some (S.leaf1 d (rdk c++rdk x) [] .bool (A.and (S.lv .bool i) e))
     | none=>none
    else none
   | _=>none
  | _,_=>none
 | _=>none
def TV.nth:TV->Nat->Option TV
 | .cons a _,0=>some a
 | .cons _ b,k+1=>b.nth k
 | _,_=>none
def TV.top:TV->Bool
 | .tup _ | .opt _ _ _ | .undef | .cons _ _=>true
 | .alt _ x y=>x.top || y.top
 | _=>false
def Hz (S:St A) (d:Nat) (x:Operand) (k:Nat):Option (Stp A) :=
 match S.op x with
 | some (.tup vs)=>match vs.nth k with
  | some y=>bif y.top then none else some (.pure [] { nt:=rdk x,wt:=[(d,y)] })
  | none=>none
 | _=>none
end
section
variable {P:Program} {B:D5} {ops:Array Oper} {S:St typ} {ty:TypeId} {pos:String} {af:Array Edge} {d:Nat}
theorem E7 [Hid] {x:Operand} {k:IntKind} {a:Int} (h:S.anyI x=some ⟨k,a⟩):∃ tx,S.op x=some tx∧tx.v S.lv = .d (.int k a):=by
 unfold St.anyI at h;split at h
 ·rename_i k' i e;cases h;exact⟨_,e,rfl⟩
 ·rename_i k' n e;cases h;exact⟨_,e,rfl⟩
 ·cases h
theorem A1v [Hid] {x:Operand} {s:Stp typ} (hN:d<B.N) (hS:S.ok) (h:B3n S d x=some s):s.Ok P B ops ⟨some d,.move x,ty,pos,af,none⟩ S∧s.Ok P B ops ⟨some d,.assign x,ty,pos,af,none⟩ S:=by
 unfold B3n at h;split at h
 ·rename_i tx hx;cases h;exact⟨ok1 hx (M8 (Al hS hx)) λnt h=>OpJ.move hN h,ok1 hx (M8 (Al hS hx)) λnt h=>OpJ.assign hN h⟩
 ·cases h
section
variable {x y:Operand} {xt yt:TypeId} {nt nt':List (Nat×V)} {k k':IntKind} {m n:Int}
variable {s:Stp typ}
theorem A6p (op:BinOp) (h:Kd op=true) (hN:d<B.N) (hx:Opd x (.d (.int k m)) nt) (hy:Opd y (.d (.int k n)) nt') :
  OpJ P B ops ⟨some d,.binOp op xt x y yt,ty,pos,af,none⟩ { nt:=nt++nt',wt:=[(d,.d (.bool (A0b op m n)))] }:=by
 cases op<;>simp [Kd] at h
 ·exact OpJ.eqlI hN hx hy
 ·exact OpJ.neqI hN hx hy
 ·exact OpJ.lss hN hx hy
 ·exact OpJ.leq hN hx hy
 ·exact OpJ.gtr hN hx hy
 ·exact OpJ.geq hN hx hy
theorem Ea (op:BinOp) (k:IntKind) (m n:Int) (h:op = .add∨op = .sub∨op = .mul∨op = .quo) :
  Ow op k m n=k.wrap (match op with | .add=>m+n | .sub=>m-n | .mul=>m*n | _=>m.tdiv n):=by
 rcases h with rfl | rfl | rfl | rfl<;>cases k<;>rfl
theorem B4o (op:BinOp) (h:Wz op=true) (hN:d<B.N) (hx:Opd x (.d (.int k m)) nt) (hy:Opd y (.d (.int k n)) nt') :
  OpJ P B ops ⟨some d,.binOp op xt x y yt,ty,pos,af,none⟩ { nt:=nt++nt',wt:=[(d,.d (.int k (Ow op k m n)))] }:=by
 cases op<;>simp [Wz] at h
 ·rw [Ea _ _ _ _ (by simp)];exact OpJ.add hN hx hy
 ·rw [Ea _ _ _ _ (by simp)];exact OpJ.sub hN hx hy
 ·rw [Ea _ _ _ _ (by simp)];exact OpJ.mul hN hx hy
 ·have:Ow .and k m n=G8 .and k m n:=by cases k<;>rfl
  rw [this];exact OpJ.bits (by simp) hN hx hy
 ·have:Ow .or k m n=G8 .or k m n:=by cases k<;>rfl
  rw [this];exact OpJ.bits (by simp) hN hx hy
 ·have:Ow .xor k m n=G8 .xor k m n:=by cases k<;>rfl
  rw [this];exact OpJ.bits (by simp) hN hx hy
 ·have:Ow .andNot k m n=G8 .andNot k m n:=by cases k<;>rfl
  rw [this];exact OpJ.bits (by simp) hN hx hy
theorem A6q (op:BinOp) (h1:Kd op=false) (h2:Wz op=false) (h3:op ≠ .shl) (h4:op ≠ .shr) (h0:n≠0) (hN:d<B.N) (hx:Opd x (.d (.int k m)) nt) (hy:Opd y (.d (.int k n)) nt') :
  OpJ P B ops ⟨some d,.binOp op xt x y yt,ty,pos,af,none⟩ { nt:=nt++nt',wt:=[(d,.d (.int k (Ow op k m n)))] }:=by
 cases op<;>first | (simp [Kd] at h1;done) | (simp [Wz] at h2;done) | (simp at h3;done) | (simp at h4;done) | skip
 ·rw [Ea _ _ _ _ (by simp)];exact OpJ.quo hN hx hy h0
 ·have:Ow .rem k m n=m.tmod n:=by cases k<;>rfl
  rw [this];exact OpJ.rem hN hx hy h0
theorem A6r [Hid] {op:BinOp} (hN:d<B.N) (h:A9g S d op x y=some s):s.Ok P B ops ⟨some d,.binOp op xt x y yt,ty,pos,af,none⟩ S:=by
 unfold A9g at h;split at h
 ·rename_i k m k' n hx hy;cases hk:decide (k'=k) with
  | false=>rw [hk] at h;cases h
  | true =>
   rw [hk] at h;have:=of_decide_eq_true hk;subst this;cases hc:Kd op with
   | true=>rw [hc] at h;cases h;exact ok2 hx hy rfl λnt nt' hx hy=>A6p op hc hN hx hy
   | false =>
    rw [hc] at h;cases ha:Wz op with
    | true=>rw [ha] at h;cases h;exact ok2 hx hy rfl λnt nt' hx hy=>B4o op ha hN hx hy
    | false=>rw [ha] at h;cases h
 ·cases h
theorem B4p {op:BinOp} {l:Bool} (hl:op=if l then .shl else .shr) (h0:0<=n) (hN:d<B.N) (hx:Opd x (.d (.int k m)) nt) (hy:Opd y (.d (.int k' n)) nt') :
  OpJ P B ops ⟨some d,.binOp op xt x y yt,ty,pos,af,none⟩ { nt:=nt++nt',wt:=[(d,.d (.int k (@Bool.rec (λ_=>Int) (H5 k m n) (X6 k m n) l)))] }:=by
 cases l<;>simp at hl<;>subst hl
 ·exact OpJ.shr hN hx hy h0
 ·exact OpJ.shl hN hx hy h0
theorem Ps [Hid] {op:BinOp} {l:Bool} {s:Stp typ} {a b:Int} (hl:op=if l then .shl else .shr) (hN:d<B.N) (hx:S.anyI x=some ⟨k,a⟩) (hy:S.anyI y=some ⟨k',b⟩) (h:Nm.sh S d x y l k k' a b=some s):s.Ok P B ops ⟨some d,.binOp op xt x y yt,ty,pos,af,none⟩ S:=by
 obtain⟨tx,e1,e2⟩:=E7 hx;obtain⟨ty',e3,e4⟩:=E7 hy;unfold Nm.sh at h;split at h
 ·rename_i kk nn hyy;rw [hyy] at e3;cases e3;have e5:nn=b:=by simp only [TV.v,TV.vs,List.headD] at e4;cases e4;rfl
  subst e5;cases hk:decide (0<=nn) with
  | false=>rw [hk] at h;cases h
  | true =>
   rw [hk] at h;cases h;refine ok2 e1 hyy E5 λnt nt' hx hy => ?_;rw [e2] at hx;rw [e4] at hy;exact B4p hl (of_decide_eq_true hk) hN hx hy
 ·cases h;intro hb;refine ok2 e1 e3 E5 λnt nt' hx hy => ?_;rw [e2] at hx;rw [e4] at hy;exact B4p hl (of_decide_eq_true hb) hN hx hy
theorem A46 [Hid] {op:BinOp} (hN:d<B.N) (h:Nm S d op x y=some s):s.Ok P B ops ⟨some d,.binOp op xt x y yt,ty,pos,af,none⟩ S:=by
 unfold Nm at h;split at h
 ·rename_i k a k' b hx hy;split at h
  ·exact Ps (l:=true) rfl hN hx hy h
  ·exact Ps (l:=false) rfl hN hx hy h
  ·rename_i h3 h4;split at h
   ·rename_i hk;subst hk;obtain⟨tx,e1,e2⟩:=E7 hx;obtain⟨ty',e3,e4⟩:=E7 hy;simp only at h;cases hc:Kd op with
    | true =>
     rw [hc] at h;cases h;refine ok2 e1 e3 E5 λnt nt' hx hy => ?_;rw [e2] at hx;rw [e4] at hy;exact A6p op hc hN hx hy
    | false =>
     rw [hc] at h;cases ha:Wz op with
     | true =>
      rw [ha] at h;cases h;refine ok2 e1 e3 E5 λnt nt' hx hy => ?_;rw [e2] at hx;rw [e4] at hy;exact B4o op ha hN hx hy
     | false =>
      rw [ha] at h;simp only [cond_false] at h;split at h
      ·rename_i kk nn hyy;rw [hyy] at e3;cases e3;have e5:nn=b:=by simp only [TV.v,TV.vs,List.headD] at e4;cases e4;rfl
       subst e5;cases hz:(nn != 0) with
       | false=>rw [hz] at h;cases h
       | true =>
        rw [hz] at h;cases h;refine ok2 e1 hyy E5 λnt nt' hx hy => ?_;rw [e2] at hx;rw [e4] at hy;exact A6q op hc ha h3 h4 (by simpa using hz) hN hx hy
      ·cases h;intro hb;refine ok2 e1 e3 E5 λnt nt' hx hy => ?_;rw [e2] at hx;rw [e4] at hy;exact A6q op hc ha h3 h4 (bne_iff_ne.1 hb) hN hx hy
   ·cases h
 ·cases h
theorem A47 [Hid] {op:BinOp} (hN:d<B.N) (h:A0c P S d op xt x y=some s):s.Ok P B ops ⟨some d,.binOp op xt x y yt,ty,pos,af,none⟩ S:=by
 unfold A0c at h;split at h
 ·rename_i tx ty' hu hx hy;split at h
  ·rename_i a b ha hb;have e1:=Q8 ha;have e2:=Q8 hb;split at h
   ·cases h;refine ok2 hx hy E5 λnt nt' hx hy => ?_;rw [e1] at hx;rw [e2] at hy;exact OpJ.eqlB hu hN hx hy
   ·cases h;refine ok2 hx hy E5 λnt nt' hx hy => ?_;rw [e1] at hx;rw [e2] at hy;exact OpJ.neqB hu hN hx hy
   ·cases h
  ·cases h
 ·cases h
theorem B5e (hN:d<B.N) (hx:Opd x (.d (.int k m)) nt):OpJ P B ops ⟨some d,.unOp .neg xt x,ty,pos,af,none⟩ { nt,wt:=[(d,.d (.int k (B6x k m)))] }:=by
 have e:B6x k m=k.wrap (0-m):=by cases k<;>rfl
 rw [e];exact OpJ.neg hN hx
theorem A1w {sd:TypeId} {sx:TypeDesc} (hu:P.underlying xt=some sx) (hs:P.underlying sd=some (.int k')) (hN:d<B.N) (hx:Opd x (.d (.int k m)) nt):OpJ P B ops ⟨some d,.convert xt sd x,ty,pos,af,none⟩ { nt,wt:=[(d,.d (.int k' (A34 k' m)))] }:=by
 have e:A34 k' m=k'.wrap m:=by cases k'<;>rfl
 rw [e];exact OpJ.conv hu hs hN hx
theorem B21 [Hid] {op:UnOp} (hN:d<B.N) (h:B6z S d op x=some s):s.Ok P B ops ⟨some d,.unOp op xt x,ty,pos,af,none⟩ S:=by
 unfold B6z at h;split at h
 ·rename_i b hx;cases h;exact ok1 hx rfl λnt hx=>OpJ.not hN hx
 ·rename_i i hx;cases h;exact ok1 hx E5 λnt hx=>OpJ.not hN hx
 ·split at h
  ·rename_i k a hx;obtain⟨tx,e1,e2⟩:=E7 hx;cases h;refine ok1 e1 E5 λnt hx => ?_;rw [e2] at hx;exact B5e hN hx
  ·cases h
 ·split at h
  ·rename_i k a hx;obtain⟨tx,e1,e2⟩:=E7 hx;cases h;refine ok1 e1 E5 λnt hx => ?_;rw [e2] at hx;exact OpJ.inv hN hx
  ·cases h
 ·cases h
theorem A48 [Hid] {src dst:TypeId} (hN:d<B.N) (h:A0d P S d src dst x=some s):s.Ok P B ops ⟨some d,.convert src dst x,ty,pos,af,none⟩ S:=by
 unfold A0d at h;split at h
 ·rename_i k a u k' hx hu hs;obtain⟨tx,e1,e2⟩:=E7 hx;split at h
  ·rename_i kk n hxx;rw [hxx] at e1;cases e1;have e5:n=a:=by simp only [TV.v,TV.vs,List.headD] at e2;cases e2;rfl
   subst e5;cases h;refine ok1 hxx rfl λnt hx => ?_;rw [e2] at hx;exact A1w hu hs hN hx
  ·cases h;refine ok1 e1 E5 λnt hx => ?_;rw [e2] at hx;exact A1w hu hs hN hx
 ·cases h
theorem A49 [Hid] {c:Operand} (hN:d<B.N) (hS:S.ok) (h:A0e S d c x y=some s):s.Ok P B ops ⟨some d,.pick c x y,ty,pos,af,none⟩ S:=by
 unfold A0e at h;split at h
 ·rename_i hc;split at h
  ·rename_i tx hx;cases h;exact ok2 hc hx (M8 (Al hS hx)) λnt nt' hc hx=>OpJ.pickT hN hc hx
  ·cases h
 ·rename_i hc;split at h
  ·rename_i tx hx;cases h;exact ok2 hc hx (M8 (Al hS hx)) λnt nt' hc hx=>OpJ.pickF hN hc hx
  ·cases h
 ·rename_i i hc;split at h
  ·split at h
   ·rename_i g z hy;cases hg:Nat.beq g i with
    | false=>rw [hg] at h;cases h
    | true =>
     rw [hg] at h;have:=Nat.eq_of_beq_eq_true hg;subst this;simp only [cond_true] at h;split at h
     ·rename_i e he;cases h;refine ok2 hc hy E5 λnt nt' hc hy => ?_;have hv:(TV.opt g false z).v S.lv = .opt (@BEq.beq Bool _ (S.lv .bool g) false) (.d (.bool e)):=by
       have:=Q8 he;simp only [TV.v,TV.vs,List.headD] at this ⊢;rw [this];rfl
      rw [hv] at hy;exact OpJ.pickOr rfl hN hc hy
     ·cases h
   ·cases h
  ·rename_i hne;split at h
   ·rename_i g z hy;cases hg:Nat.beq g i with
    | false=>rw [hg] at h;cases h
    | true =>
     rw [hg] at h;have:=Nat.eq_of_beq_eq_true hg;subst this;simp only [cond_true] at h;split at h
     ·rename_i e he;cases h;refine ok2 hc hy E5 λnt nt' hc hy => ?_;have hv:(TV.opt g true z).v S.lv = .opt (@BEq.beq Bool _ (S.lv .bool g) true) (.d (.bool e)):=by
       have:=Q8 he;simp only [TV.v,TV.vs,List.headD] at this ⊢;rw [this];rfl
      rw [hv] at hy;exact OpJ.pickAnd rfl hN hc hy
     ·cases h
   ·cases h
  ·cases h
 ·cases h
theorem Bt [Hid] {f:Val}:∀ {x y:TV} {k:Nat},x.nth k=some y->(x.vs f)[k]? = some (y.v f)
 | .cons a _,y,0,h=>by simp only [TV.nth,Option.some.injEq] at h;subst h;rfl
 | .cons _ b,y,k+1,h=>by
  simp only [TV.nth] at h;simp only [TV.vs,List.getElem?_cons_succ];exact Bt h
 | .nil,_,_,h | .junk,_,_,h | .undef,_,_,h | .d _ _,_,_,h | .kb _,_,_,h | .ki _ _,_,_,h | .ks _,_,_,h | .nils,_,_,h | .cst _,_,_,h | .ptr _ _ _,_,_,h | .eptr ..,_,_,h | .aptr ..,_,_,h | .dptr _ _,_,_,h | .sref _ _ _,_,_,h | .qref _ _,_,_,h | .qptr _ _ _,_,_,h | .tref ..,_,_,h | .func _ _,_,_,h | .st _,_,_,h | .tup _,_,_,h | .opt _ _ _,_,_,h | .mref _,_,_,h | .alt _ _ _,_,_,h=>by simp [TV.nth] at h
theorem Hl {n:Nat}:∀ {x y:TV} {k:Nat},x.nth k=some y->x.lt n=true->y.lt n=true
 | .cons a _,y,0,h,hl=>by
  simp only [TV.nth,Option.some.injEq] at h;subst h;simp only [TV.lt,Bool.and_eq_true] at hl;exact hl.1
 | .cons _ b,y,k+1,h,hl=>by
  simp only [TV.lt,Bool.and_eq_true] at hl;exact Hl (x:=b) h hl.2
 | .nil,_,_,h,_ | .junk,_,_,h,_ | .undef,_,_,h,_ | .d _ _,_,_,h,_ | .kb _,_,_,h,_ | .ki _ _,_,_,h,_ | .ks _,_,_,h,_ | .nils,_,_,h,_ | .cst _,_,_,h,_ | .ptr _ _ _,_,_,h,_ | .eptr ..,_,_,h,_ | .aptr ..,_,_,h,_ | .dptr _ _,_,_,h,_ | .sref _ _ _,_,_,h,_ | .qref _ _,_,_,h,_ | .qptr _ _ _,_,_,h,_ | .tref ..,_,_,h,_ | .func _ _,_,_,h,_ | .st _,_,_,h,_ | .tup _,_,_,h,_ | .opt _ _ _,_,_,h,_ | .mref _,_,_,h,_ | .alt _ _ _,_,_,h,_=>by simp [TV.nth] at h
theorem A6s [Hid] {f:Val} {g:Nat} {x y:TV}:(TV.alt g x y).v f = @cond V (f .bool g) (x.v f) (y.v f):=rfl
theorem Lt [Hid] {f:Val}:∀ {x:TV},x.top=false->(x.v f).isTop=false
 | .alt g x y,h=>by
  simp only [TV.top,Bool.or_eq_false_iff] at h;rw [A6s];cases f .bool g
  ·exact Lt h.2
  ·exact Lt h.1
 | .cst _,_=>Uw _
 | .junk,_ | .d _ _,_ | .kb _,_ | .ki _ _,_ | .ks _,_ | .nils,_ | .ptr _ _ _,_ | .eptr ..,_ | .aptr ..,_ | .dptr _ _,_ | .sref _ _ _,_ | .qref _ _,_ | .qptr _ _ _,_ | .tref ..,_ | .func _ _,_ | .st _,_ | .mref _,_ | .nil,_=>rfl
 | .tup _,h | .opt _ _ _,h | .undef,h | .cons _ _,h=>by simp [TV.top] at h
theorem Rr [Hid] {k:Nat} (hN:d<B.N) (hS:S.ok) (h:Hz S d x k=some s):s.Ok P B ops ⟨some d,.extract x k,ty,pos,af,none⟩ S:=by
 unfold Hz at h;split at h
 ·rename_i vs hx;split at h
  ·rename_i y hy;cases ht:y.top with
   | true=>rw [ht] at h;cases h
   | false =>
    rw [ht] at h;cases h;have hl:(TV.tup vs).lt S.nl=true:=Al hS hx;refine ok1 hx (M8 (Hl hy hl)) λnt hx => ?_;exact OpJ.extract (Bt hy) (Lt ht) hN hx
  ·cases h
 ·cases h
end
end
end Go.Vc
namespace Go.Vc
open Go
namespace TV
def isL:TV->Bool
 | nil | cons _ _=>true
 | _=>false
def agg:TV->Bool
 | d c _=>c.agg
 | st _=>true
 | _=>false
def sz? : TV->Option Nat
 | d c _=>if c.dat false=true then some c.sz else none
 | kb _ | ki _ _ | ks _ | nils | cst _ | ptr _ _ _ | eptr .. | aptr .. | dptr _ _ | sref _ _ _ | qref _ _ | qptr _ _ _ | tref .. | func _ _ | mref _=>some 1
 | st fs=>if fs.isL=true then fs.sz? else none
 | nil=>some 0
 | cons a b=>if a.isL=true then none else if b.isL=true then a.sz?.bind λm=>b.sz?.map λn=>m+n else none
 | alt _ x y=>if (x.isL || y.isL || x.agg || y.agg)=true then none else match x.sz?,y.sz? with
  | some 1,some 1=>some 1
  | _,_=>none
 | junk | undef | tup _ | opt _ _ _=>none
def isJunk:TV->Bool
 | junk=>true
 | _=>false
theorem G7 [Hid] {f:Val} {x:TV} (h:x.isL=false):x.vs f=[x.v f]:=by
 cases x<;>first | rfl | (simp [isL] at h;done)
theorem Pt [Hid] {f:Val}:∀ {x:TV} {n:Nat},x.sz? = some n->V.szL (x.vs f)=n
 | d c i,n,h=>by
  simp only [sz?] at h;split at h
  ·rename_i e;cases h;simp only [vs,V.szL,V.sz,Ty.D7 e,Nat.add_zero]
  ·cases h
 | cst t,n,h=>by
  simp only [sz?,Option.some.injEq] at h;subst h;simp only [vs,V.szL,B1z]
 | kb _,n,h | ki _ _,n,h | ks _,n,h | nils,n,h | ptr _ _ _,n,h | eptr ..,n,h | aptr ..,n,h | dptr _ _,n,h | sref _ _ _,n,h | qref _ _,n,h | qptr _ _ _,n,h | tref ..,n,h | func _ _,n,h | mref _,n,h=>by
  simp only [sz?,Option.some.injEq] at h;subst h;rfl
 | st fs,n,h=>by
  simp only [sz?] at h;split at h
  ·have:=Pt (f:=f) h;simp only [vs,V.szL,V.sz,this,Nat.add_zero]
  ·cases h
 | alt g x y,n,h=>by
  simp only [sz?] at h;split at h
  ·cases h
  ·rename_i hc;simp only [Bool.or_eq_true,not_or,Bool.not_eq_true] at hc;split at h
   ·rename_i h1 h2;cases h;have e1:=Pt (f:=f) h1;have e2:=Pt (f:=f) h2;rw [G7 hc.1.1.1] at e1;rw [G7 hc.1.1.2] at e2;show V.szL [@cond V (f .bool g) (x.v f) (y.v f)]=1;cases f .bool g
    ·exact e2
    ·exact e1
   ·cases h
 | nil,n,h=>by simp only [sz?,Option.some.injEq] at h;subst h;rfl
 | cons a b,n,h=>by
  simp only [sz?] at h;split at h
  ·cases h
  ·rename_i ha;split at h
   ·cases h1:a.sz? with
    | none=>rw [h1] at h;cases h
    | some m =>
     cases h2:b.sz? with
     | none=>rw [h1,h2] at h;cases h
     | some k =>
      rw [h1,h2] at h;cases h;have e1:=Pt (f:=f) h1;have e2:=Pt (f:=f) h2;rw [G7 (by simpa using ha)] at e1;simp only [V.szL,Nat.add_zero] at e1;simp only [vs,V.szL,e2];show V.sz (a.v f)+k=m+k;rw [e1]
   ·cases h
theorem sz_v [Hid] {f:Val} {x:TV} {n:Nat} (h:x.sz? = some n) (hl:x.isL=false):(x.v f).sz=n:=by
 have:=Pt (f:=f) h;rw [G7 hl] at this;simpa [V.szL] using this
theorem Et [Hid] {f:Val}:∀ {x:TV},x.isL=false->x.sz? ≠ none->(x.v f).isAgg=x.agg
 | d c i,_,h=>by
  by_cases e:c.dat false=true
  ·exact Ty.O4 e _
  ·simp [sz?,e] at h
 | cst t,_,_=>A6n t
 | kb _,_,_ | ki _ _,_,_ | ks _,_,_ | nils,_,_ | ptr _ _ _,_,_ | eptr ..,_,_ | aptr ..,_,_ | dptr _ _,_,_ | sref _ _ _,_,_ | qref _ _,_,_ | qptr _ _ _,_,_ | tref ..,_,_ | func _ _,_,_ | mref _,_,_ | st _,_,_=>rfl
 | alt g x y,_,h=>by
  by_cases hc:(x.isL || y.isL || x.agg || y.agg)=true
  ·simp [sz?,hc] at h
  ·rw [A6s];have hc':=hc;simp only [Bool.or_eq_true,not_or,Bool.not_eq_true] at hc;have h1:x.sz? ≠ none:=λe=>by simp [sz?,hc',e] at h
   have h2:y.sz? ≠ none:=λe=>by
    simp only [sz?,hc',e] at h;revert h;cases x.sz? <;> simp
   cases f .bool g
   ·show(y.v f).isAgg=false;rw [Et hc.1.1.2 h2];exact hc.2
   ·show(x.v f).isAgg=false;rw [Et hc.1.1.1 h1];exact hc.1.2
 | junk,_,h | undef,_,h | tup _,_,h | opt _ _ _,_,h=>by simp [sz?] at h
 | nil,h,_ | cons _ _,h,_=>by simp [isL] at h
theorem P3 [Hid] {f:Val}:∀ {x:TV} {n:Nat},x.sz? = some n->x.isL=false->(x.v f).isTop=false∧x.v f ≠ .junk
 | alt g x y,n,h,_=>by
  simp only [sz?] at h;split at h
  ·cases h
  ·rename_i hc;simp only [Bool.or_eq_true,not_or,Bool.not_eq_true] at hc;split at h
   ·rename_i h1 h2;rw [A6s];cases f .bool g
    ·exact P3 h2 hc.1.1.2
    ·exact P3 h1 hc.1.1.1
   ·cases h
 | cst _,_,_,_=>⟨Uw _,A45 _⟩
 | d _ _,_,_,_ | kb _,_,_,_ | ki _ _,_,_,_ | ks _,_,_,_ | nils,_,_,_ | ptr _ _ _,_,_,_ | eptr ..,_,_,_ | aptr ..,_,_,_ | dptr _ _,_,_,_ | sref _ _ _,_,_,_ | qref _ _,_,_,_ | qptr _ _ _,_,_,_ | tref ..,_,_,_ | func _ _,_,_,_ | st _,_,_,_ | mref _,_,_,_=>⟨rfl,V.noConfusion⟩
 | junk,_,h,_ | undef,_,h,_ | tup _,_,h,_ | opt _ _ _,_,h,_=>by simp [sz?] at h
 | nil,_,_,h | cons _ _,_,_,h=>by simp [isL] at h
def off? : TV->Nat->Option Nat
 | _,0=>some 0
 | cons a b,i+1=>if a.isL=true then none else a.sz?.bind λm=>(b.off? i).map λn=>m+n
 | _,_=>none
theorem Fa [Hid] {f:Val}:∀ {x:TV} {i n:Nat},x.off? i=some n->V.szL ((x.vs f).take i)=n
 | x,0,n,h=>by
  have:n=0:=by cases x<;>(simp only [off?,Option.some.injEq] at h;exact h.symm)
  subst this;rfl
 | cons a b,i+1,n,h=>by
  simp only [off?] at h;split at h
  ·cases h
  ·rename_i ha;cases h1:a.sz? with
   | none=>rw [h1] at h;cases h
   | some m =>
    cases h2:b.off? i with
    | none=>rw [h1,h2] at h;cases h
    | some k =>
     rw [h1,h2] at h;cases h;have e1:=sz_v (f:=f) h1 (by simpa using ha);have e2:=Fa (f:=f) h2;simp only [vs,List.take_succ_cons,V.szL,e2];show V.sz (a.v f)+k=m+k;rw [e1]
 | nil,i+1,n,h | junk,i+1,n,h | undef,i+1,n,h | d _ _,i+1,n,h | kb _,i+1,n,h | ki _ _,i+1,n,h | ks _,i+1,n,h | nils,i+1,n,h | cst _,i+1,n,h | ptr _ _ _,i+1,n,h | eptr ..,i+1,n,h | aptr ..,i+1,n,h | dptr _ _,i+1,n,h | sref _ _ _,i+1,n,h | qref _ _,i+1,n,h | qptr _ _ _,i+1,n,h | tref ..,i+1,n,h | func _ _,i+1,n,h | st _,i+1,n,h | tup _,i+1,n,h | opt _ _ _,i+1,n,h | mref _,i+1,n,h | alt _ _ _,i+1,n,h=>by simp [off?] at h
def setN:TV->Nat->TV->Option TV
 | cons _ b,0,y=>some (cons y b)
 | cons a b,i+1,y=>(b.setN i y).map (cons a)
 | _,_,_=>none
theorem Ge [Hid] {f:Val}:∀ {x z:TV} {i:Nat} {y:TV},x.setN i y=some z->z.vs f=(x.vs f).set i (y.v f)
 | cons a b,z,0,y,h=>by simp only [setN,Option.some.injEq] at h;subst h;rfl
 | cons a b,z,i+1,y,h=>by
  simp only [setN] at h;cases h1:b.setN i y with
  | none=>rw [h1] at h;cases h
  | some w =>
   rw [h1] at h;cases h;simp only [vs,List.set_cons_succ,Ge (f:=f) h1]
 | nil,_,_,_,h | junk,_,_,_,h | undef,_,_,_,h | d _ _,_,_,_,h | kb _,_,_,_,h | ki _ _,_,_,_,h | ks _,_,_,_,h | nils,_,_,_,h | cst _,_,_,_,h | ptr _ _ _,_,_,_,h | eptr ..,_,_,_,h | aptr ..,_,_,_,h | dptr _ _,_,_,_,h | sref _ _ _,_,_,_,h | qref _ _,_,_,_,h | qptr _ _ _,_,_,_,h | tref ..,_,_,_,h | func _ _,_,_,_,h | st _,_,_,_,h | tup _,_,_,_,h | opt _ _ _,_,_,_,h | mref _,_,_,_,h | alt _ _ _,_,_,_,h=>by simp [setN] at h
end TV
namespace Ty
def pty:Ty->List Nat->Ty
 | c,[]=>c
 | st b,i :: p=>(b.fty i).pty p
 | c,_ :: _=>c
def poff:Ty->List Nat->Option Nat
 | _,[]=>some 0
 | st b,i :: p=>bif Nat.blt i b.nf then ((b.fty i).poff p).map λo=>b.foff i+o else none
 | _,_ :: _=>none
end Ty
section
variable {A:Alg}
def B3o (A:Alg):(c:Ty)->A.I c->(p:List Nat)->A.I (c.pty p)
 | _,x,[]=>x
 | .st b,x,i :: p=>B3o A (b.fty i) (A.fld b x i) p
 | .bool,x,_ :: _=>x
 | .int _,x,_ :: _=>x
 | .str,x,_ :: _=>x
 | .nil,x,_ :: _=>x
 | .pr _ _,x,_ :: _=>x
 | .arr _ _,x,_ :: _=>x
 | .list _,x,_ :: _=>x
 | .sum _ _,x,_ :: _=>x
def A0f (A:Alg):(c:Ty)->A.I c->(p:List Nat)->A.I (c.pty p)->A.I c
 | _,_,[],y=>y
 | .st b,x,i :: p,y=>A.fset b x i (A0f A (b.fty i) (A.fld b x i) p y)
 | .bool,x,_ :: _,_=>x
 | .int _,x,_ :: _,_=>x
 | .str,x,_ :: _,_=>x
 | .nil,x,_ :: _,_=>x
 | .pr _ _,x,_ :: _,_=>x
 | .arr _ _,x,_ :: _,_=>x
 | .list _,x,_ :: _,_=>x
 | .sum _ _,x,_ :: _,_=>x
end
theorem Gf:∀ {p:List Nat} {c:Ty} {o:Nat},c.dat false=true->c.poff p=some o->∀ (x:c.T),At (.d (c.enc x)) p o (.d ((c.pty p).enc (B3o typ c x p)))∧(c.pty p).dat false=true
 | [],c,o,hd,h,x=>by
  have:o=0:=by cases c<;>(simp only [Ty.poff,Option.some.injEq] at h;exact h.symm)
  subst this;cases c<;>exact⟨At.here _,hd⟩
 | i :: p,.st b,o,hd,h,x=>by
  simp only [Ty.poff] at h;cases hi:Nat.blt i b.nf with
  | false=>rw [hi] at h;cases h
  | true =>
   rw [hi] at h;cases h1:(b.fty i).poff p with
   | none=>rw [h1] at h;cases h
   | some o' =>
    rw [h1] at h;cases h;obtain⟨g1,g2,g3,_⟩:=Ty.M2 (c:=b) hd x i (TV.C2 hi);obtain⟨k1,k2⟩:=Gf (p:=p) (c:=b.fty i) g3 h1 (b.fget x i);exact⟨At.dst g1 g2 k1,k2⟩
 | _ :: _,.bool,_,_,h,_ | _ :: _,.int _,_,_,h,_ | _ :: _,.str,_,_,h,_ | _ :: _,.nil,_,_,h,_ | _ :: _,.pr _ _,_,_,h,_ | _ :: _,.arr _ _,_,_,h,_ | _ :: _,.list _,_,_,h,_ | _ :: _,.sum _ _,_,_,h,_=>by simp [Ty.poff] at h
theorem Rs:∀ {p:List Nat} {c:Ty} {o:Nat},c.dat false=true->c.poff p=some o->∀ (x:c.T) (y:(c.pty p).T),L6 (.d (c.enc x)) p o (.d ((c.pty p).enc y)) (.d (c.enc (A0f typ c x p y)))
 | [],c,o,hd,h,x,y=>by
  have:o=0:=by cases c<;>(simp only [Ty.poff,Option.some.injEq] at h;exact h.symm)
  subst this;cases c<;>exact L6.here _ _
 | i :: p,.st b,o,hd,h,x,y=>by
  simp only [Ty.poff] at h;cases hi:Nat.blt i b.nf with
  | false=>rw [hi] at h;cases h
  | true =>
   rw [hi] at h;cases h1:(b.fty i).poff p with
   | none=>rw [h1] at h;cases h
   | some o' =>
    rw [h1] at h;cases h;obtain⟨g1,g2,g3,g4⟩:=Ty.M2 (c:=b) hd x i (TV.C2 hi);have k1:=Rs (p:=p) (c:=b.fty i) g3 h1 (b.fget x i) y;have e:=g4 (A0f typ (b.fty i) (b.fget x i) p y);have:=L6.dst g1 g2 k1 (by rw [Ty.D7 g3,Ty.D7 g3]);rw [<- e] at this;exact this
 | _ :: _,.bool,_,_,h,_,_ | _ :: _,.int _,_,_,h,_,_ | _ :: _,.str,_,_,h,_,_ | _ :: _,.nil,_,_,h,_,_ | _ :: _,.pr _ _,_,_,h,_,_ | _ :: _,.arr _ _,_,_,h,_,_ | _ :: _,.list _,_,_,h,_,_ | _ :: _,.sum _ _,_,_,h,_,_=>by simp [Ty.poff] at h
def A35 (h:TypeId->Option Ty):List Field->Option Ty
 | []=>some .nil
 | [f]=>h f.type
 | f :: fs=>(h f.type).bind λc=>(A35 h fs).map λd => .pr c d
def V3 (P:Program):Nat->TypeId->Option Ty
 | 0,_=>none
 | n+1,t=>match P.underlying t with
  | some .bool=>some .bool
  | some (.int k)=>some (.int k)
  | some .string=>some .str
  | some (.slice e)=>(V3 P n e).map .list
  | some (.array m e)=>(V3 P n e).map (.arr m)
  | some (.struct fs)=>(A35 (V3 P n) fs.toList).map .st
  | _=>none
def La (h:TypeId->Option V):List Field->Option (List V)
 | []=>some []
 | f :: fs=>(h f.type).bind λx=>(La h fs).map λl=>x :: l
def zV (P:Program):Nat->TypeId->Option V
 | 0,_=>none
 | n+1,t=>match P.underlying t with
  | some .bool=>some (.d (.bool false))
  | some (.int k)=>some (.d (.int k 0))
  | some .string=>some (.d (.str []))
  | some (.slice _)=>some .nils
  | some (.pointer _)=>some (.cst (Bk 0))
  | some (.interface _)=>some (.cst (Bk 1))
  | some (.map _ _)=>some (.cst (Bk 2))
  | some (.func _ _ _)=>some (.cst (Bk 3))
  | some (.array m e)=>(V3 P 12 e).map λc => .d ((Ty.arr m c).enc (Ty.arr m c).zero)
  | some (.struct fs)=>(La (zV P n) fs.toList).map .st
  | _=>none
section
variable {A:Alg}
def Ci (h:TypeId->Nat->Option (TV×List (Lf A))):List Field->Nat->Option (TV×List (Lf A))
 | [],_=>some (.nil,[])
 | f :: fs,i=>(h f.type i).bind λp=>(Ci h fs (i+p.2.length)).map λq=>(.cons p.1 q.1,p.2++q.2)
def zT (A:Alg) (P:Program):Nat->TypeId->Nat->Option (TV×List (Lf A))
 | 0,_,_=>none
 | n+1,t,i=>match P.underlying t with
  | some .bool=>some (.kb false,[])
  | some (.int k)=>some (.ki k 0,[])
  | some .string=>some (.ks [],[])
  | some (.slice _)=>some (.nils,[])
  | some (.pointer _)=>some (.cst 0,[])
  | some (.interface _)=>some (.cst 1,[])
  | some (.map _ _)=>some (.cst 2,[])
  | some (.func _ _ _)=>some (.cst 3,[])
  | some (.array m e)=>(V3 P 12 e).map λc=>(.d (.arr m c) i,[⟨.arr m c,A.zero (.arr m c)⟩])
  | some (.struct fs)=>(Ci (zT A P n) fs.toList i).map λp=>(.st p.1,p.2)
  | _=>none
end
variable {a b:List (Lf typ)} {i:Nat} {f:Val}
def Dq (f:Val) (i:Nat) (lf:List (Lf typ)):Prop:=∀ (k:Nat) (c:Ty) (x:c.T),lf[k]? = some ⟨c,x⟩->f c (i+k)=x
theorem Dq.left (h:Dq f i (a++b)):Dq f i a:=λk c x e=>h k c x (by
 rw [List.getElem?_append_left (List.getElem?_eq_some_iff.1 e).1];exact e)
theorem Dq.right (h:Dq f i (a++b)):Dq f (i+a.length) b:=λk c x e=>by
 rw [Nat.add_assoc];exact h (a.length+k) c x (by rw [List.getElem?_append_right (by omega)];simpa using e)
theorem St.hasAt {S:St typ} (lf:List (Lf typ)):Dq (S.push lf) S.nl lf:=λk c x e=>Rq e
theorem Pu [Hid] {f:Val} {hV:TypeId->Option V} {hT:TypeId->Nat->Option (TV×List (Lf typ))} (H:∀ {t:TypeId} {i:Nat} {x:TV} {lf:List (Lf typ)},hT t i=some (x,lf)->Dq f i lf->hV t=some (x.v f)) :
  ∀ {fs:List Field} {i:Nat} {x:TV} {lf:List (Lf typ)},Ci hT fs i=some (x,lf)->Dq f i lf->La hV fs=some (x.vs f)
 | [],_,_,_,h,_=>by simp only [Ci,Option.some.injEq,Prod.mk.injEq] at h;obtain⟨rfl,rfl⟩:=h;rfl
 | g :: fs,i,x,lf,h,hf=>by
  simp only [Ci] at h;cases h1:hT g.type i with
  | none=>rw [h1] at h;cases h
  | some p =>
   cases h2:Ci hT fs (i+p.2.length) with
   | none=>rw [h1] at h;simp only [Option.bind_some] at h;rw [h2] at h;cases h
   | some q =>
    rw [h1] at h;simp only [Option.bind_some] at h;rw [h2] at h;cases h;have e1:=H (x:=p.1) (lf:=p.2) h1 hf.left;have e2:=Pu (hV:=hV) (hT:=hT) H (fs:=fs) (i:=i+p.2.length) (x:=q.1) (lf:=q.2) h2 hf.right;simp only [La,e1,e2];rfl
theorem B70 [Hid] {P:Program} {f:Val}:∀ {n:Nat} {t:TypeId} {i:Nat} {x:TV} {lf:List (Lf typ)},zT typ P n t i=some (x,lf)->Dq f i lf->zV P n t=some (x.v f)
 | 0,_,_,_,_,h,_=>by simp [zT] at h
 | n+1,t,i,x,lf,h,hf=>by
  unfold zT at h;unfold zV;cases hu:P.underlying t with
  | none=>rw [hu] at h;cases h
  | some u =>
   rw [hu] at h;cases u with
   | array m e =>
    simp only at h ⊢;cases hc:V3 P 12 e with
    | none=>rw [hc] at h;cases h
    | some c =>
     rw [hc] at h;cases h;have:=hf 0 _ _ rfl;simp only [Nat.add_zero] at this;simp only [Option.map_some,TV.v,TV.vs,List.headD,this]
   | struct fs =>
    simp only at h ⊢;cases hg:Ci (zT typ P n) fs.toList i with
    | none=>rw [hg] at h;cases h
    | some q =>
     rw [hg] at h;cases h;rw [Pu (hV:=zV P n) (λh k=>B70 h k) (lf:=q.2) (x:=q.1) hg hf];rfl
   | _=>first | (cases h;rfl) | cases h
def zeq:Value->Value->Bool
 | .bool a,.bool b => @BEq.beq Bool _ a b
 | .int k a,.int k' b=>decide (k=k') && @BEq.beq Int _ a b
 | .string a,.string b => @BEq.beq (List UInt8) _ a.data.toList b.data.toList
 | .pointer none,.pointer none=>true
 | .slice none 0 0,.slice none 0 0=>true
 | .map none,.map none=>true
 | .nilIface,.nilIface=>true
 | .nilFunc,.nilFunc=>true
 | _,_=>false
def A61:List Value->List Value->Bool
 | [],[]=>true
 | x :: xs,y :: ys=>zeq x y&&A61 xs ys
 | _,_=>false
theorem B5f {a b:Value} (h:zeq a b=true):a=b:=by
 unfold zeq at h;split at h
 ·rw [eq_of_beq h]
 ·simp only [Bool.and_eq_true,decide_eq_true_eq] at h;rw [h.1,eq_of_beq h.2]
 ·rename_i a b;have:=eq_of_beq h;obtain⟨⟨a⟩⟩:=a;obtain⟨⟨b⟩⟩:=b;simp at this;subst this;rfl
 all_goals first | rfl | cases h
theorem Rt:∀ {a b:List Value},A61 a b=true->a=b
 | [],[],_=>rfl
 | x :: xs,y :: ys,h=>by
  simp only [A61,Bool.and_eq_true] at h;rw [B5f h.1,Rt h.2]
 | [],_ :: _,h | _ :: _,[],h=>by simp [A61] at h
def zB (P:Program) (t:TypeId) (z:V):Bool :=
 z.plain&&(match P.info? t with
  | some i=>(match i.zero,z.isAgg with
   | some (.agg xs),true=>A61 xs.toList z.enc
   | some v,false=>A61 [v] z.enc
   | _,_=>false)
  | none=>false)
theorem Dc {P:Program} {t:TypeId} {z:V} (h:zB P t z=true):TyZ P t z:=by
 unfold zB at h;rw [Bool.and_eq_true] at h;obtain⟨h1,h2⟩:=h;refine⟨h1,λw => ?_⟩;split at h2
 ·rename_i i hi;split at h2
  ·rename_i xs h3 h4;have:=Rt h2;simp [zeroValue,typeInfo,hi,h3,h4,D3,<- this]
  ·rename_i v h3 h4;have:=Rt h2;simp [zeroValue,typeInfo,hi,h3,D3,h4,<- this]
  ·cases h2
 ·cases h2
def Bl (P:Program) (e sz bytes:Nat):Bool :=
 (match P.info? e with
  | some i=>(match i.zero with
   | some z=>Nat.beq z.cells.size sz&&Nat.beq i.size sz&&Nat.beq i.bytes bytes
   | none=>false)
  | none=>false)&&Nat.blt 0 sz
theorem W4 {P:Program} {e sz bytes:Nat} (h:Bl P e sz bytes=true):TyE P e sz bytes:=by
 unfold Bl at h;rw [Bool.and_eq_true] at h;obtain⟨h1,h2⟩:=h;refine⟨?_,TV.C2 h2⟩;split at h1
 ·rename_i i hi;split at h1
  ·rename_i z hz;simp only [Bool.and_eq_true] at h1;rw [hi];simp only [Option.map_some,hz,Nat.eq_of_beq_eq_true h1.1.1,Nat.eq_of_beq_eq_true h1.1.2,Nat.eq_of_beq_eq_true h1.2]
  ·cases h1
 ·cases h1
end Go.Vc
