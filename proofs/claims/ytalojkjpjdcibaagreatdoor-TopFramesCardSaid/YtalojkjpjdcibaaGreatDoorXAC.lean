/- Part of the proof that 'TopFrames' holds of every input: no condition. -/
import Derived.Test.YtalojkjpjdcibaaGreatDoorXAB
import Derived.Laws.StructEq
import Derived.ProofKit
import Derived.Below
import Derived.OpenShut
import Derived.WideKeyArgs
import Derived.LaidMore
import Derived.Laws.CopyRow
import Derived.MapKept
import Derived.WideKeyMaps
import Derived.Maps.Own
import Derived.Maps.Range
import Derived.LaidSub
import Derived.ChangeKeys
import Derived.Handed
import Derived.SizedLaws
import Derived.Shelf.Vars
namespace Go.Vc
open Go
variable {P:Program} {B:D5} {ops:Array Oper}
mutual
theorem V.ren_id {r:Nat->Nat} (h:∀ n,r n=n):∀ x:V,x.ren r=x
 | .junk=>rfl
 | .d _=>rfl
 | .nils=>rfl
 | .ptr .. => by simp [V.ren,h]
 | .dptr _=>rfl
 | .sref .. => by simp [V.ren,h]
 | .func _ caps=>by simp [V.ren,V.renL_id h caps]
 | .st fs=>by simp [V.ren,V.renL_id h fs]
 | .tup fs=>by simp [V.ren,V.renL_id h fs]
 | .opt _ x=>by simp [V.ren,V.ren_id h x]
 | .mref _=>by simp [V.ren,h]
 | .full .. => rfl
 | .cst _=>rfl
 | .sat _=>rfl
theorem V.renL_id {r:Nat->Nat} (h:∀ n,r n=n):∀ xs:List V,V.renL r xs=xs
 | []=>rfl
 | x :: xs=>by simp [V.renL,V.ren_id h x,V.renL_id h xs]
end
def B3m (P:Program) (B:D5) (rs:List ResultVar) (res:V) (robs:OL) (e:Exit) (E:EL) (O:OL):Prop :=
 (e = .ret∨e = .normal)∧∃ E1 O1,Mat B E O E1 O1∧∃ vs,Res P E1 O1 rs vs∧res=C03 vs∧Dl [] [] robs=true∧A06 [] robs O1=Ni [] robs∧(V.namesL vs).all (λn=>memB n (B8 robs))=true
theorem AC.of_code2 {f:FuncId} {fn:Func} {c:Code} {args:List V} {pobs:List (Nat×Ob)} {res:V} {robs:OL} (hf:P.funcs[f]? = some fn) (hb:fn.body=some c) (hnt:args.all Q4=true)
  (hle:args.length<=fn.ntmps)
  (h:∀ B:D5,B.ok->B.N=fn.ntmps->AWp P B c (B3m P B fn.results.toList res robs) (Wv 0 args) (pobs.map λp=>(p.1,some p.2))) (hnr:pobs.all (λp=>p.2.noReg)=true:=by rfl):AC P f args pobs res robs:=by
 intro w σ Z cargs pre;have hlen:=pre.args.length
 let B:D5:={ w0:=w,own:=λk=>∃ m,live (T8 pobs) m∧σ m=some k,pin:=λn=>if n<1000∧(A1 pobs n).isSome then some (σ n) else none,z0:=Z,N:=fn.ntmps }
 have hB:B.ok:=by
  intro n b hn
  by_cases h:n<1000∧(A1 pobs n).isSome=true
  ·exact h.1
  ·simp [B,h] at hn
 have hN:cargs.toArray.size+(fn.ntmps-cargs.toArray.size)=fn.ntmps:=by simp;omega
 have hsim:Sim B (A1 (Wv 0 args)) (A1 (pobs.map λp=>(p.1,some p.2))) { tmps:=cargs.toArray++Array.replicate (fn.ntmps-cargs.toArray.size) undef,defers:=[] } w σ Z:=by
  rw [Oq];refine⟨rfl,by simp [B];omega,?_,pre.obj,pre.inj,?_,pre.zlt,?_,λ_ _ _ _=>rfl,rfl,rfl,rfl,Nat.le_refl _,λ_ h=>h,λ_ h => .inl h,λ_ _ _=>rfl,A3s hnr⟩
  ·intro k x hk;rw [Ph] at hk;simp only [Nat.zero_le,if_true,Nat.sub_zero] at hk;obtain⟨v,h1,h2⟩:=pre.args.get k x hk;have hlt:k<cargs.length:=(List.getElem?_eq_some_iff.1 h1).1;refine⟨v,?_,D0.of h2 ?_⟩
   ·rw [Array.getElem?_append_left (by simpa using hlt)];simpa using h1
   ·have:=List.all_eq_true.1 hnt x (List.mem_of_getElem? hk);simpa [Q4] using this
  ·exact λn b hl hb=>⟨pre.blk n b hl hb,.inr ⟨n,hl,hb⟩⟩
  ·intro n b hn _
   by_cases h:n<1000∧(A1 pobs n).isSome=true
   ·simpa [B,h] using hn
   ·simp [B,h] at hn
 refine calls_of_wp hf hb ?_;refine wp_mono (h B hB rfl _ w σ Z hsim) λe a' w' ⟨E',O0,σ1,Z1,⟨he,E1,O1,hmat,vs,hres,hr,hp1,hp2,hp3⟩,s1⟩ => ?_;obtain⟨σ2,Z',s2⟩:=hmat a' w' σ1 Z1 s1;have s':=s2.pat hB (E':=[]) (O':=robs) [] hp1 rfl hp2;have hO':=M7 hp2;obtain⟨cs,g2',g3⟩:=hres.run s2;have rid:∀ n,rnm [] n=n:=λn=>rfl;have idren:∀ x:V,x.ren (rnm [])=x:=V.ren_id rid;have idrenL:∀ xs:List V,V.renL (rnm []) xs=xs:=V.renL_id rid;have g2:J8 (A1 robs) (λn=>σ2 (rnm [] n)) Z' w' cs vs:=by
  refine J8.unren (r:=rnm []) (ob:=A1 O1) (σ:=σ2) ⟨λn hn => ?_,λn hn hl => ?_⟩ (by rw [idrenL];exact g2')
  ·have:=List.all_eq_true.1 hp3 n hn;exact M3 (Q7 this)
  ·obtain⟨o,ho⟩:=hl;have:=hO' (n,some o) (H2 ho);exact⟨⟨_,by simpa using this⟩,rfl⟩
 let σ':Nat->Option Nat:=λn=>σ2 (rnm [] n)
 have hrun:(results fn a'.tmps).run P w' = .ok (if h:cs.toArray.size=1 then cs.toArray[0] else .tuple cs.toArray) w':=by
  rw [Yc,Sem.run_bind,Array.mapM_eq_mapM_toList];have:(List.toArray <$> fn.results.toList.mapM (Fn a'.tmps):Sem (Array Value)).run P w' = .ok cs.toArray w':=by
   rw [map_eq_pure_bind,Sem.run_bind,g3,Result.andThen_ok];rfl
  rw [this];rfl
 have hrep:D0 (A1 robs) σ' Z' w' (if h:cs.toArray.size=1 then cs.toArray[0] else .tuple cs.toArray) res:=by
  subst hr
  match vs,cs,g2 with
  | [v],[c],g2 =>
   simp only [C03,List.size_toArray,List.length_cons,List.length_nil,Nat.zero_add,dite_true];refine D0.of g2.1 ?_;have:=g2.1;cases v<;>first | rfl | simp [F3,V.isAgg,V.rep] at this
  | [],[],_=>exact⟨[],rfl,trivial⟩
  | v :: v' :: vs,c :: c' :: cs,g2=>exact⟨_,by simp,g2⟩
 have hpin:∀ n,n<1000->live (T8 pobs) n->B.pin n=some (σ n):=λn hn hl=>by
  obtain⟨o,ho⟩:=hl;have:(A1 pobs n).isSome=true:=by
   simp only [T8,Option.map_eq_some_iff] at ho;obtain⟨o',h1,_⟩:=ho;simp [h1]
  simp [B,hn,this]
 have hpost:B6s (T8 pobs) w σ Z res robs _ w' σ' Z':=⟨hrep,s'.obj,s'.inj,λn hn hl hl'=>s'.pin n _ (hpin n hn hl) hl',λn b hn hl hl' hb=>s'.shp n b (by rw [<- hb];exact hpin n hn hl) hl',
  s'.blk,s'.zlt,s'.zsub,s'.znew,s'.os,s'.tape,s'.output,s'.size,s'.block⟩
 rcases he with rfl | rfl
 ·exact bodyPost_ret hrun s'.dfr ⟨_,σ',Z',rfl,hpost⟩
 ·exact bodyPost_end hrun s'.dfr ⟨_,σ',Z',rfl,hpost⟩
theorem Fy {α β:Type} (f:α->β) (xs:List α) (k:Nat) (x:α):(xs.set k x).map f=(xs.map f).set k (f x):=List.map_set
theorem B1w {c:Int} {b:Nat} (h:c<=(LIM:Int)) (hb:Nat.ble b 65536=true):(b:Int)*c<=281474976710656:=by
 have hb':=Nat.le_of_ble_eq_true hb;have:(b:Int)*c<=65536*4294967296:=by
  have h1:c<=4294967296:=h
  by_cases h0:0<=c
  ·exact Int.mul_le_mul (by omega) h1 h0 (by omega)
  ·have:(b:Int)*c<=0:=Int.mul_nonpos_of_nonneg_of_nonpos (by omega) (by omega);omega
 omega
theorem B5c {c:Int} (h:c<=(LIM:Int)):c<=9223372036854775807:=by
 have h1:c<=4294967296:=h;omega
theorem Y9 {c b:Nat} (h:decide (c<=LIM)=true) (hb:Nat.ble b 32768=true):c*b<=140737488355328:=by
 have h1:c<=4294967296:=of_decide_eq_true h;have hb':=Nat.le_of_ble_eq_true hb;have:=Nat.mul_le_mul h1 hb';omega
theorem Fz {c:Nat} (h:decide (c<=LIM)=true):c<=9223372036854775807:=by
 have h1:c<=4294967296:=of_decide_eq_true h;omega
section
variable {d:Nat} {ty:TypeId} {pos:String} {af:Array Edge} {nt nt':List (Nat×V)} {x y c:Operand}
theorem Pm {ob:Obs} {σ:Nat->Option Nat} {Z:Nat->Prop} {w:World}:D0 ob σ Z w undef (.opt false .junk):=⟨(λe=>by cases e),λ_=>rfl⟩
theorem OpJ.skipU {op:Op} {j g:Nat} {want:Bool} (hN:d<B.N) (hg:(ops[j]?).bind (·.dst)=some g) :
  OpJ P B ops ⟨some d,op,ty,pos,af,some (j,want)⟩ { nt:=[(g,.d (.bool (!want)))],wt:=[(d,.opt false .junk)] }:=by
 intro Q env ob a w σ Z K s hn hK;obtain⟨cv,h1,h2⟩:=s.env g _ (hn.1 (g,.d (.bool (!want))) (List.mem_cons_self ..));have hcv:=J5 h2;subst hcv;rw [if_neg (by simp [Region.wanted,yielded,hg,h1])];refine hK _ _ σ Z ?_;rw [O8 _ rfl];exact s.put hN Pm
theorem OpJ.skipV {op:Op} {j g:Nat} {want:Bool} {v:V} (hN:d<B.N) (hg:(ops[j]?).bind (·.dst)=some g) :
  OpJ P B ops ⟨some d,op,ty,pos,af,some (j,want)⟩ { nt:=[(g,.opt false v)],wt:=[(d,.opt false .junk)] }:=by
 intro Q env ob a w σ Z K s hn hK;obtain⟨cv,h1,h2⟩:=s.env g _ (hn.1 (g,.opt false v) (List.mem_cons_self ..));have hcv:=h2.2 rfl;subst hcv;rw [if_neg (by simp [Region.wanted,yielded,hg,h1,undef])];refine hK _ _ σ Z ?_;rw [O8 _ rfl];exact s.put hN Pm
theorem OpJ.skipV0 {op:Op} {j g:Nat} {want:Bool} {v:V} (hg:(ops[j]?).bind (·.dst)=some g) :
  OpJ P B ops ⟨none,op,ty,pos,af,some (j,want)⟩ { nt:=[(g,.opt false v)] }:=by
 intro Q env ob a w σ Z K s hn hK;obtain⟨cv,h1,h2⟩:=s.env g _ (hn.1 (g,.opt false v) (List.mem_cons_self ..));have hcv:=h2.2 rfl;subst hcv;rw [if_neg (by simp [Region.wanted,yielded,hg,h1,undef])];exact hK _ _ σ Z s
theorem Er {ob:Obs} {σ:Nat->Option Nat} {Z:Nat->Prop} {w:World}:∀ {cs:List Value} {vs:List V},J8 ob σ Z w cs vs->vs.all (λv => !v.isAgg&&(match v with | .junk=>false | _=>true))=true->V.repL ob σ Z w vs cs
 | [],[],_,_=>rfl
 | v :: cs,x :: vs,h,ha=>by
  simp only [List.all_cons,Bool.and_eq_true] at ha;have h1:=h.1;unfold F3 at h1;have hag:x.isAgg=false:=by simpa using ha.1.1
  rw [if_neg (by rw [hag];simp)] at h1;refine⟨v,cs,rfl,?_,h1.1,Er h.2 ha.2⟩;rcases h1.2 with h2 | h2
  ·subst h2;simp at ha
  ·exact h2
 | [],_ :: _,h,_=>h.elim
 | _ :: _,[],h,_=>h.elim
theorem OpJ.makeF {f:FuncId} {caps:List Operand} {vs:List V} (hx:Gz caps vs nt) (hc:vs.all (λv => !v.isAgg&&(match v with | .junk=>false | _=>true))=true) (ht:vs.all Q4=true) (hN:d<B.N) :
  OpJ P B ops ⟨some d,.makeFunc (.func f) #[] caps.toArray,ty,pos,af,none⟩ { nt,wt:=[(d,.func f vs)] } :=
 OpJ.makeFunc (λ_ _ _ _ _ _ _ s hn=>Er (hx.rep s hn ht) hc) hN
end
theorem Opd.junk (x:Operand):Opd x .junk []:=λB env ob a w σ Z s h=>by simp [D0,F3,V.isAgg,V.rep]
end Go.Vc
namespace Go.Vc
open Go
variable {P:Program} {B:D5} {ops:Array Oper}
mutual
/-- x and y are of type t, and their being equal is b -/
inductive R3 (P:Program):Nat->TypeId->D->D->Bool->Prop
 | bool {h:Nat} {t:TypeId} (a b:Bool) (hu:P.underlying t=some .bool):R3 P (h+1) t (.bool a) (.bool b) (a==b)
 | int {h:Nat} {t:TypeId} {q k:IntKind} (a b:Int) (hu:P.underlying t=some (.int q)):R3 P (h+1) t (.int k a) (.int k b) (a==b)
 | str {h:Nat} {t:TypeId} (a b:List UInt8) (hu:P.underlying t=some .string):R3 P (h+1) t (.str a) (.str b) (a==b)
 | st {h:Nat} {t:TypeId} {fs:Array Field} {l:List Field} {xs ys:List D} {b:Bool} (hu:P.underlying t=some (.struct fs)) (hl:fs.toList=l) (hs:P.stoodInHeld t=false):FitF P h 0 l xs ys b->R3 P (h+1) t (.st xs) (.st ys) b
inductive FitF (P:Program):Nat->Nat->List Field->List D->List D->Bool->Prop
 | nil {h o:Nat}:FitF P h o [] [] [] true
 | cons {h o n:Nat} {ag:Bool} {f:Field} {fs:List Field} {x y:D} {xs ys:List D} {b b':Bool} (hn:f.name ≠ "_") (ho:f.offset=o) (ht:TyS P f.type n ag) (hx:x.sz=n∧x.isAgg=ag) (hy:y.sz=n∧y.isAgg=ag) :
  R3 P h f.type x y b->FitF P h (o+n) fs xs ys b'->FitF P h o (f :: fs) (x :: xs) (y :: ys) (b&&b')
end
theorem I0 {t n:Nat} {ag:Bool} (h:TyS P t n ag) (w:World) (c1 c2 c3:List Value) (hl:c2.length=n) (h1:ag=false->n=1) {o:Nat} (ho:c1.length=o) :
  (part t (c1++c2++c3).toArray o).run P w = .ok (D3 ag c2) w:=by
 unfold part;cases ag with
 | true =>
  simp only [Sem.run_bind,h.run_agg,h.run_size,Result.andThen_ok,if_true,Sem.run_pure,D3];congr 2;apply Array.ext';simp [List.extract,ho,hl]
 | false =>
  have:=h1 rfl;obtain⟨v,rfl⟩:∃ v,c2=[v]:=by
   match c2,hl with
   | [v],_=>exact⟨v,rfl⟩
   | [],hl=>simp at hl;omega
   | _ :: _ :: _,hl=>simp at hl;omega
  simp only [Sem.run_bind,h.run_agg,Result.andThen_ok,D3];have hg:(c1++v :: c3)[o]? = some v:=by
   rw [<- ho];simp
  simp [hg]
mutual
theorem R3.run {Z Z':Nat->Prop} {w w1 w2:World}:∀ {h:Nat} {t:TypeId} {x y:D} {b:Bool},R3 P h t x y b->∀ {d:Nat},h<=d->∀ {cx cy:List Value},D.rep Z w1 x cx->D.rep Z' w2 y cy ->
  (Op.equalIn d t (D3 x.isAgg cx) (D3 y.isAgg cy)).run P w = .ok b w
 | _,_,_,_,_,.bool a b hu,d,hd,cx,cy,hx,hy=>by
  obtain⟨d,rfl⟩:∃ e,d=e+1:=⟨d-1,by omega⟩;cases hx;cases hy;simp [D3,D.isAgg,Op.equalIn,run_underlying hu]
 | _,_,_,_,_,.int a b hu,d,hd,cx,cy,hx,hy=>by
  obtain⟨d,rfl⟩:∃ e,d=e+1:=⟨d-1,by omega⟩;cases hx;cases hy;simp [D3,D.isAgg,Op.equalIn,run_underlying hu]
 | _,_,_,_,_,.str a b hu,d,hd,cx,cy,hx,hy=>by
  obtain⟨d,rfl⟩:∃ e,d=e+1:=⟨d-1,by omega⟩;cases hx;cases hy;have hb:((⟨a.toArray⟩:ByteArray)==⟨b.toArray⟩)=(a==b):=by
   show(a.toArray==b.toArray)=(a==b);simp
  simp [D3,D.isAgg,Op.equalIn,run_underlying hu,hb]
 | _,_,_,_,_,.st (t:=t) (fs:=fs) hu hl hs hf,d,hd,cx,cy,hx,hy=>by
  obtain⟨d,rfl⟩:∃ e,d=e+1:=⟨d-1,by omega⟩;have hfs:P.fieldsOf t=fs:=by simp [Program.fieldsOf,hu]
  simp only [D3,D.isAgg,if_true];rw [run_equalIn_struct w d t cx.toArray cy.toArray (by rw [hfs];exact hu) hs,hfs,hl];have:=FitF.run (w:=w) hf (d:=d) (by omega) (px:=[]) (py:=[]) rfl rfl hx hy;simpa using this
theorem FitF.run {Z Z':Nat->Prop} {w w1 w2:World}:∀ {h o:Nat} {fs:List Field} {xs ys:List D} {b:Bool},FitF P h o fs xs ys b->∀ {d:Nat},h<=d->∀ {px py cx cy:List Value},px.length=o->py.length=o->D.repL Z w1 xs cx->D.repL Z' w2 ys cy ->
  (Op.eqFields d (px++cx).toArray (py++cy).toArray fs).run P w = .ok b w
 | _,_,_,_,_,_,.nil,d,_,px,py,cx,cy,_,_,_,_=>by simp [Op.eqFields]
 | _,_,_,_,_,_,.cons (f:=f) (x:=x) (y:=y) (b:=b) hn ho ht hx hy he hf,d,hd,px,py,cx,cy,hpx,hpy,hrx,hry=>by
  obtain⟨c1,c2,rfl,h1,h2⟩:=hrx;obtain⟨e1,e2,rfl,g1,g2⟩:=hry;have l1:=D.rep_len _ _ h1;have l2:=D.rep_len _ _ g1;obtain⟨hxs,hxa⟩:=hx;obtain⟨hys,hya⟩:=hy;have s1:∀ {ag:Bool},x.isAgg=ag->ag=false->x.sz=1:=λh e=>D.sz_one (h.trans e);have p1:=I0 ht w px c1 c2 (l1.trans hxs) (λe=>by rw [<- hxs];exact s1 hxa e) (hpx.trans ho.symm);have p2:=I0 ht w py e1 e2 (l2.trans hys) (λe=>by rw [<- hxs];exact s1 hxa e) (hpy.trans ho.symm);have pe:=R3.run (w:=w) he (d:=d) hd h1 g1;rw [hxa,hya] at pe;have ih:=FitF.run (w:=w) hf (d:=d) hd (px:=px++c1) (py:=py++e1) (by simp;omega) (by simp;omega) h2 g2;rw [List.append_assoc] at p1 p2;simp only [List.append_assoc] at ih;simp only [Op.eqFields,hn,ne_eq,not_false_eq_true,if_true,Sem.run_bind,p1,p2,pe,Result.andThen_ok];cases b with
  | false=>simp
  | true=>simpa using ih
end
section
variable {d:Nat} {ty:TypeId} {pos:String} {af:Array Edge} {nt nt':List (Nat×V)} {x y:Operand} {xt yt:TypeId}
variable {a b:Bool}
theorem P2 {ob:Obs} {σ:Nat->Option Nat} {Z:Nat->Prop} {w:World} {v:Value} {e:D} (h:D0 ob σ Z w v (.d e)):∃ cs,v=D3 e.isAgg cs∧D.rep Z w e cs:=by
 have h1:F3 ob σ Z w v (.d e):=h;unfold F3 at h1
 by_cases ha:e.isAgg=true
 ·rw [if_pos (show(V.d e).isAgg=true from ha)] at h1;obtain⟨cs,h2,h3⟩:=h1;exact⟨cs,by rw [h2,ha];rfl,h3⟩
 ·rw [if_neg (show ¬ (V.d e).isAgg=true from ha)] at h1;exact⟨[v],by simp [D3,ha],h1.1⟩
theorem OpJ.eqlB (hu:P.underlying xt=some .bool) (hN:d<B.N) (hx:Opd x (.d (.bool a)) nt) (hy:Opd y (.d (.bool b)) nt') :
  OpJ P B ops ⟨some d,.binOp .eql xt x y yt,ty,pos,af,none⟩ { nt:=nt++nt',wt:=[(d,.d (.bool (a==b)))] } :=
 OpJ.pure rfl rfl hN λenv ob c w σ Z s hn=>by
  obtain⟨h1,h2⟩:=B4 hn;have e1:=J5 (hx B env ob c w σ Z s h1);have e2:=J5 (hy B env ob c w σ Z s h2);have:=(R3.bool (P:=P) (h:=0) a b hu).run (w:=w) (d:=10000) (by omega) (Z:=Z) (Z':=Z) (w1:=w) (w2:=w) (cx:=[.bool a]) (cy:=[.bool b]) rfl rfl;simp only [D3,D.isAgg,Bool.false_eq_true,if_false,List.headD] at this;have g:(eqGuard .eql xt x y (.bool a) (.bool b)).run P w = .ok () w:=by simp [eqGuard]
  exact⟨.bool (a==b),by simp [execOp,e1,e2,binOp,g,Op.equal,Op.maxDepth,this],H3 _⟩
theorem OpJ.neqB (hu:P.underlying xt=some .bool) (hN:d<B.N) (hx:Opd x (.d (.bool a)) nt) (hy:Opd y (.d (.bool b)) nt') :
  OpJ P B ops ⟨some d,.binOp .neq xt x y yt,ty,pos,af,none⟩ { nt:=nt++nt',wt:=[(d,.d (.bool (a != b)))] } :=
 OpJ.pure rfl rfl hN λenv ob c w σ Z s hn=>by
  obtain⟨h1,h2⟩:=B4 hn;have e1:=J5 (hx B env ob c w σ Z s h1);have e2:=J5 (hy B env ob c w σ Z s h2);have:=(R3.bool (P:=P) (h:=0) a b hu).run (w:=w) (d:=10000) (by omega) (Z:=Z) (Z':=Z) (w1:=w) (w2:=w) (cx:=[.bool a]) (cy:=[.bool b]) rfl rfl;simp only [D3,D.isAgg,Bool.false_eq_true,if_false,List.headD] at this;have g:(eqGuard .neq xt x y (.bool a) (.bool b)).run P w = .ok () w:=by simp [eqGuard]
  exact⟨.bool (a != b),by simp [execOp,e1,e2,binOp,g,Op.equal,Op.maxDepth,this,bne],H3 _⟩
end
end Go.Vc
namespace Go.Vc
open Go Go.ChangeShapes Go.WideShapes Go.ChangeAt Go.RowKit
variable {P:Program}
variable {a:Addr} {base n:Nat} {w:World}
def Zw (w:World):Nat->Prop:=λb=>b<w.heap.size
structure Rd (P:Program) (t:TypeId) (n:Nat) (ag:Bool) (p:D->Prop):Prop where
 run:∀ {H:Type} {enc:TypeId×Value->H} {w:World} {base:Nat} {spare:Nat->Bool} {held:Bool} {fuel:Nat} {cs:List Value} {r:DataW H×List MemPlace},
  DataW.trod enc P w base spare held fuel t cs=some r->∃ d,p d∧D.rep (Zw w) w d cs
 sz:∀ d,p d->d.sz=n
 agg:∀ d,p d->d.isAgg=ag
 ty:(P.underlying t).map Av=some ag
 cells:P.cellsOf t=n
theorem Rd.bool {t:TypeId} (hu:P.underlying t=some .bool) (hc:P.cellsOf t=1):Rd P t 1 false (λd=>∃ x:Bool,True∧d=eB x) :=
 ⟨λh=>by obtain⟨b,rfl,_⟩:=DataW.trod_bool hu h;exact⟨eB b,⟨b,trivial,rfl⟩,rfl⟩,λd ⟨x,_,h⟩=>by subst h;rfl,λd ⟨x,_,h⟩=>by subst h;rfl,by rw [hu];rfl,hc⟩
theorem Rd.int {t:TypeId} {k:IntKind} (hu:P.underlying t=some (.int k)) (hc:P.cellsOf t=1):Rd P t 1 false (λd=>∃ x:Int,(k.min<=x∧x<=k.max)∧d=eI k x) :=
 ⟨λh=>by
  obtain⟨n,rfl,_,hw⟩:=DataW.trod_int hu h;simp only [Lit.wf,Bool.and_eq_true,decide_eq_true_eq] at hw;exact⟨eI k n,⟨n,hw,rfl⟩,rfl⟩,λd ⟨x,_,h⟩=>by subst h;rfl,λd ⟨x,_,h⟩=>by subst h;rfl,by rw [hu];rfl,hc⟩
theorem Uo {cs:List Value} (h:w.cells? base a n=some cs):cs.length=n∧∀ j,j<n->w.cell? (a.add j)=cs[j]? :=by
 obtain⟨_,h2,h3⟩:=World.cells?_some h;exact⟨h2,h3⟩
theorem Pn {α:Type} {e n:Nat} {ag:Bool} {f:α->D} {q:α->Prop} (he:Rd P e n ag (λd=>∃ x,q x∧d=f x)) {H:Type} {enc:TypeId×Value->H} {w:World} {base:Nat} {spare:Nat->Bool} {held:Bool} {fuel b:Nat} :
  ∀ (m o:Nat),(∀ i,i<m->∃ c r,G6 w b (o+i*n) c∧DataW.trod enc P w base spare held fuel e c=some r)->∃ xs:List α,xs.length=m∧(∀ x∈xs,q x)∧D.repE (Zw w) w n (xs.map f) b o
 | 0,_,_=>⟨[],rfl,by simp,trivial⟩
 | m+1,o,h=>by
  obtain⟨c,r,h1,h2⟩:=h 0 (Nat.succ_pos _);obtain⟨d,⟨x,hq,rfl⟩,hr⟩:=he.run h2;obtain⟨xs,g1,g2,g3⟩:=Pn he (fuel:=fuel) m (o+n) (λi hi=>by
   obtain⟨c,r,k1,k2⟩:=h (i+1) (Nat.succ_lt_succ hi);exact⟨c,r,by rw [Nat.succ_mul] at k1;rwa [show o+n+i*n=o+(i*n+n) from by omega],k2⟩)
  refine⟨x :: xs,by simp [g1],?_,⟨⟨c,by simpa using h1,hr⟩,g3⟩⟩;intro y hy;rcases List.mem_cons.1 hy with hy | hy
  ·rw [hy];exact hq
  ·exact g2 y hy
theorem Hi {v:Value} (h:w.cell? a=some v):a.spot=none∧a.block<w.heap.size:=by
 unfold World.cell? at h;cases hh:w.heap[a.block]? with
 | none=>simp [hh] at h
 | some o =>
  have hlt:a.block<w.heap.size:=(Array.getElem?_eq_some_iff.1 hh).1;cases o with
  | cells c t f =>
   simp only [hh] at h;split at h
   ·cases h
   ·rename_i hs;exact⟨by simpa using hs,hlt⟩
  | _=>simp [hh] at h
theorem Rd.list {α:Type} {t e n:Nat} {ag:Bool} {f:α->D} {q:α->Prop} (hu:P.underlying t=some (.slice e)) (hc:P.cellsOf t=1) (hn:0<n) (he:Rd P e n ag (λd=>∃ x,q x∧d=f x)) :
  Rd P t 1 false (λd=>∃ xs:List α,((∀ x∈xs,q x)∧xs.length<=maxLen)∧d = .list n (xs.map f)):=by
 refine⟨?_,λd ⟨x,_,h⟩=>by subst h;rfl,λd ⟨x,_,h⟩=>by subst h;rfl,by rw [hu];rfl,hc⟩;intro H enc w base spare held fuel cs r h;rcases DataW.trod_slice hu h with ⟨rfl,_⟩ | ⟨a,len,cap,elems,rest,m,_,rfl,_,hb,hl,hm,hlen,hel,_,_⟩
 ·exact⟨.list n [],⟨[],⟨by simp,Nat.zero_le _⟩,rfl⟩,none,0,rfl,Nat.le_refl _,by decide,.inl rfl⟩
 ·rw [he.cells] at hel;have hall:∀ i,i<len->∃ c r,(w.cells? base (a.add (i*n)) n)=some c∧DataW.trod enc P w base spare held m e c=some r:=λi hi=>by
   have h1:=hel i hi;rw [List.getElem?_eq_getElem (by omega)] at h1;obtain⟨c,h2,h3⟩:=Option.bind_eq_some_iff.1 h1;exact⟨c,_,h2,h3⟩
  by_cases h0:len=0
  ·subst h0;exact⟨.list n [],⟨[],⟨by simp,Nat.zero_le _⟩,rfl⟩,some a,cap,rfl,Nat.zero_le _,hm,.inl rfl⟩
  ·obtain⟨c0,r0,k1,k2⟩:=hall 0 (by omega);obtain⟨l0,c0'⟩:=Uo k1;have hg:=c0' 0 hn;rw [List.getElem?_eq_getElem (by omega)] at hg;simp only [Nat.zero_mul,Addr.add,if_true] at hg;obtain⟨hs,hlt⟩:=Hi hg;obtain⟨b,o,sp⟩:=a;simp only at hs hlt;subst hs;obtain⟨xs,g1,g2,g3⟩:=Pn he (fuel:=m) (b:=b) len o (λi hi=>by
    obtain⟨c,r,j1,j2⟩:=hall i hi;obtain⟨lc,cc⟩:=Uo j1;refine⟨c,r,λj v hj => ?_,j2⟩;have hjn:j<n:=by have:=(List.getElem?_eq_some_iff.1 hj).1;omega
    have:=cc j hjn;rw [hj,K6,K6] at this;exact this)
   refine⟨.list n (xs.map f),⟨xs,⟨g2,by rw [g1];omega⟩,rfl⟩,some ⟨b,o,none⟩,cap,by simp [g1],by simp [g1];omega,hm,.inr ⟨b,o,rfl,hlt,?_,g3⟩⟩;intro d hd;obtain⟨x,hx,rfl⟩:=List.mem_map.1 hd;exact he.sz _ ⟨x,g2 x hx,rfl⟩
def FA:List (D->Prop)->List D->Prop
 | [],[]=>True
 | p :: ps,d :: ds=>p d∧FA ps ds
 | _,_=>False
inductive RdF (P:Program):List Field->Nat->List (D->Prop)->Nat->Prop
 | nil {o:Nat}:RdF P [] o [] o
 | cons {f:Field} {fs:List Field} {o n m:Nat} {ag:Bool} {p:D->Prop} {ps:List (D->Prop)}:f.offset=o->Rd P f.type n ag p->RdF P fs (o+n) ps m->RdF P (f :: fs) o (p :: ps) m
theorem Rd.repV {t:Nat} {ag:Bool} {p:D->Prop} (h:Rd P t n ag p) {H:Type} {enc:TypeId×Value->H} {r:Reach} {b0:Nat} {spare:Nat->Bool} {held:Bool} {v:Value} {x:DataW H} {ps:List MemPlace} (hval:Value.okWide P w r b0 t v) (hd:DataW.Trod enc P w base spare held t v x ps) (ob:Obs) (σ:Nat->Option Nat):∃ d,p d∧F3 ob σ (Zw w) w v (.d d):=by
 obtain⟨fuel,hf⟩:=hd;obtain⟨d,hp,hr⟩:=h.run hf;refine⟨d,hp,?_⟩;have ha:=h.agg d hp;have hty:=h.ty;unfold F3;cases hu:P.underlying t with
 | none=>rw [hu] at hty;cases hty
 | some k =>
  rw [hu] at hty;simp only [Option.map_some,Option.some.injEq] at hty;unfold Value.okWide at hval;rw [hu] at hval;cases ag with
  | true =>
   rw [if_pos (show(V.d d).isAgg=true from ha)];cases k<;>simp only [Av,Bool.false_eq_true] at hty
   all_goals
    simp only at hval;obtain⟨cs,rfl,_⟩:=hval;exact⟨cs.toList,by simp,by show D.rep (Zw w) w d cs.toList;simpa [Value.cells] using hr⟩
  | false =>
   rw [if_neg (show ¬ (V.d d).isAgg=true from by rw [show(V.d d).isAgg=false from ha];simp)];have hcell:Cell.okWide P w r b0 t v:=by
    cases k<;>simp only [Av,Bool.true_eq_false] at hty
    all_goals simpa using hval
   have hone:v.oneCell'=true:=by
    unfold Cell.okWide at hcell;rw [hu] at hcell;cases v with
    | agg cs =>
     cases k<;>simp [Cell.ok,hu] at hcell
    | tuple cs =>
     cases k<;>simp [Cell.ok,hu] at hcell
    | _=>rfl
   have hv:v.cells.toList=[v]:=by cases v<;>simp_all [Value.cells,Value.oneCell']
   exact⟨by rw [<- hv];exact hr,.inr hone⟩
inductive RdA (P:Program):List TypeId->List (D->Prop)->Prop
 | nil:RdA P [] []
 | cons {t n:Nat} {ag:Bool} {p:D->Prop} {ts:List TypeId} {ps:List (D->Prop)}:Rd P t n ag p->RdA P ts ps->RdA P (t :: ts) (p :: ps)
theorem RdA.repVs {H:Type} {enc:TypeId×Value->H} {w:World} {base:Nat} {r:Reach} {b0:Nat} {spare:Nat->Bool} {held:Bool} (ob:Obs) (σ:Nat->Option Nat):∀ {ts:List TypeId} {ps:List (D->Prop)},RdA P ts ps->∀ {vs:List Value} {xs:List (DataW H)} {pl:List MemPlace},
  (∀ (j:Nat) t v,ts[j]? = some t->vs[j]? = some v->Value.okWide P w r b0 t v)->DataW.TrodAll enc P w base spare held ts vs xs pl->∃ ds,FA ps ds∧J8 ob σ (Zw w) w vs (ds.map .d)
 | _,_,.nil,[],[],_,_,_=>⟨[],trivial,trivial⟩
 | _,_,.cons h hs,v :: vs,x :: xs,_,hval,⟨p,q,h1,h2,_⟩=>by
  obtain⟨d,k1,k2⟩:=h.repV (hval 0 _ v rfl rfl) h1 ob σ;obtain⟨ds,k3,k4⟩:=RdA.repVs ob σ hs (λj t v h3 h4=>hval (j+1) t v (by simpa using h3) (by simpa using h4)) h2;exact⟨d :: ds,⟨k1,k3⟩,⟨k2,k4⟩⟩
 | _,_,.nil,[],_ :: _,_,_,h=>h.elim
 | _,_,.nil,_ :: _,_,_,_,h=>by cases h
 | _,_,.cons _ _,[],_,_,_,h=>by cases h
 | _,_,.cons _ _,_ :: _,[],_,_,h=>by cases h
theorem Es {H:Type} {enc:TypeId×Value->H} (hl:laidOutB P=true) {W W':World} (hb:Below W.heap.size W W') {sp:Nat->Bool}:∀ {ts:List TypeId} {vs:List Value} {ds:List (DataW H)} {ps:List MemPlace},
  (∀ t∈ts,P.readableRec t=true∧t<P.types.size)->DataW.TrodAll enc P W 0 (λ_=>true) true ts vs ds ps->(∀ p∈ps,p.block<W.heap.size)->(∀ p∈ps,sp p.block=true)->DataW.TrodAll enc P W' 0 sp true ts vs ds ps
 | [],[],[],_,_,h,_,_=>h
 | t :: ts,v :: vs,d :: ds,_,hr,⟨p,q,h1,h2,e⟩,hlt,hsp=>by
  subst e;refine⟨p,q,?_,Es hl hb (λt ht=>hr t (List.mem_cons_of_mem _ ht)) h2 (λx hx=>hlt x (List.mem_append_right _ hx)) (λx hx=>hsp x (List.mem_append_right _ hx)),rfl⟩;obtain⟨k1,k2⟩:=hr t (List.mem_cons_self ..);exact WideElems.Trod_stays hl k1 k2 h1 (λx hx=>hb.same (hlt x (List.mem_append_left _ hx))) (λx hx=>hsp x (List.mem_append_left _ hx))
 | [],[],_ :: _,_,_,h,_,_=>h.elim
 | [],_ :: _,_,_,_,h,_,_=>by cases h
 | _ :: _,[],_,_,_,h,_,_=>by cases h
 | _ :: _,_ :: _,[],_,_,h,_,_=>by cases h
section
variable {H:Type} {enc:TypeId×Value->H}
theorem Ye {f:Func} {s:ChangeSpec} {apart fresh handsOn again:Bool} {W W':World} {args:Array Value} {v:Value} {ds gs:List (DataW H)} {before pa pv:List MemPlace}
  (hW:DataW.Whole enc P f.params.toList s.vars apart W args.toList ds gs before)
  (hres:∀ (b:Nat) (sp:Nat->Bool) (hd:Bool),DataW.TrodAll enc P W' b sp hd f.resultTypes.toList (v.resultList f.resultTypes.size) (s.fn H (ds++gs)).results [])
  (hargs:∀ sp:Nat->Bool,(∀ p∈before,sp p.block=true)->DataW.TrodAll enc P W' 0 sp true f.params.toList args.toList (s.fn H (ds++gs)).args pa)
  (hvars:∀ sp:Nat->Bool,(∀ p∈before,sp p.block=true)->DataW.TrodVars enc P W' sp s.vars (s.fn H (ds++gs)).vars pv)
  (hps:before=pa++pv) (hb:Below W.heap.size W W')
  (hok:∀ (j:Nat) (t:TypeId) (r:Value),f.resultTypes[j]? = some t->(v.resultList f.resultTypes.size)[j]? = some r->Value.okWide P W' .any 0 t r) :
  s.post enc P f apart fresh handsOn again W args v W':=by
 have hlt:∀ p∈before,p.block<W.heap.size:=λp hp=>hW.lt p hp;have hold:∀ p∈before,(λb=>decide (b<W.heap.size)) p.block=true:=λp hp=>by simpa using hlt p hp
 refine⟨ds,gs,before,[],pa,pv,hW,hres _ _ _,hargs _ hold,hvars _ hold,World.keptBut_mono (λp hp=>⟨hp,?_⟩) (hb.frame (· ∈ before)),λ_ => ?_⟩
 ·rw [hps,List.mem_append] at hp;exact Or.inr hp
 ·obtain⟨_,_,_,_,_,hz,hn⟩:=hW;refine⟨hok,_,_,([]++pa)++pv,⟨[]++pa,pv,trodAll_append (hargs _ (λ_ _=>rfl)) (hres _ _ _),hvars _ (λ_ _=>rfl),rfl,?_,?_⟩,?_⟩
  ·intro b off hp;have hin:MemPlace.cell b off∈before:=by rw [hps];simpa using hp
   rw [hb.frozen (hlt _ hin)];exact hz b off hin
  ·intro ha;have:=hn ha;rw [hps] at this;simpa using this
  ·intro p hp _;rw [hps];simpa using hp
end
end Go.Vc
namespace Go.Vc
open Go
variable {P:Program} {B:D5} {ops:Array Oper}
section
variable {d:Nat} {ty:TypeId} {pos:String} {af:Array Edge}
end
end Go.Vc
namespace Go.Vc
open Go Go.ChangeShapes Go.WideShapes Go.ChangeAt Go.RowKit
variable {P:Program}
def Kc (ks:List (Nat×Ou)):List (Nat×Ob):=ks.map λp=>(p.1,.know p.2)
def B4x (ks:List (Nat×Ou)):OL:=ks.map λp=>(p.1,some (.know p.2))
theorem B1x {ks:List (Nat×Ou)}:∀ {n:Nat} {o:Ob},A1 (Kc ks) n=some o->∃ k,(n,k)∈ks∧o = .know k:=by
 induction ks with
 | nil=>intro n o h;simp [Kc,A1] at h
 | cons p ks ih =>
  intro n o h;obtain⟨m,k⟩:=p;have h':A1 ((m,Ob.know k) :: Kc ks) n=some o:=h;rw [A4] at h';split at h'
  ·rename_i e;cases h';exact⟨k,by rw [e];exact List.mem_cons_self,rfl⟩
  ·obtain⟨k',h1,h2⟩:=ih h';exact⟨k',List.mem_cons_of_mem _ h1,h2⟩
theorem A3v {ks:List (Nat×Ou)} {n:Nat} {o:Ob} (h:T8 (Kc ks) n=some (some o)):∃ k,(n,k)∈ks∧o = .know k:=by
 unfold T8 at h;obtain⟨o',h1,h2⟩:=Option.map_eq_some_iff.1 h;rw [<- Option.some.inj h2];exact B1x h1
section
variable {H:Type} {enc:TypeId×Value->H}
theorem Yf {f:FuncId} {fn:Func} {s:ChangeSpec} {apart fresh handsOn again:Bool} {W:World} {b0:Nat} {args:Array Value} {ds gs:List (DataW H)} {before:List MemPlace} {tb:TypeId} {ps:List (D->Prop)} {ts:List TypeId} (ks:List (Nat×Ou))
  (hk:∀ p∈ks,p.2.holds (Zw W) W)
  (hval:∀ (j:Nat) t v,fn.params[j]? = some t->args[j]? = some v->Value.okWide P W .any b0 t v)
  (hW:DataW.Whole enc P fn.params.toList s.vars apart W args.toList ds gs before) (hts:fn.params.toList=ts) (hvars:s.vars=[]) (hps:RdA P ts ps) (htb:P.underlying tb=some .bool) (hres:fn.resultTypes = #[tb])
  (hl:laidOutB P=true) (hread:∀ t∈ts,P.readableRec t=true∧t<P.types.size) (hfn:∀ ds:List (DataW H),ds.length=ts.length->s.fn H ds = { results:=[.lit (.bool true)],args:=ds })
  (hac:∀ xs,FA ps xs->AC P f (xs.map .d) (Kc ks) (.d (.bool true)) (B4x ks)) :
  Calls P f args W λe W'=>∃ v,e = .returned v∧s.post enc P fn apart fresh handsOn again W args v W':=by
 have hW':=hW;obtain⟨p,q,hA,hV,hpq,hfz,hnd⟩:=hW;rw [hvars] at hV;obtain⟨rfl,rfl⟩:=trodVars_none hV;rw [hts] at hA;have hval':∀ (j:Nat) t v,ts[j]? = some t->args.toList[j]? = some v->Value.okWide P W .any b0 t v:=λj t v h1 h2=>hval j t v (by rw [<- hts] at h1;simpa using h1) (by simpa using h2);obtain⟨xs,h1,h2⟩:=RdA.repVs (T8 (Kc ks)) (λ_=>none) hps hval' hA;have hlen:∀ {ts:List TypeId} {vs:List Value} {ds:List (DataW H)} {ps:List MemPlace},DataW.TrodAll enc P W 0 (λ_=>true) true ts vs ds ps->ds.length=ts.length:=by
  intro ts;induction ts with
  | nil =>
   intro vs ds ps h;cases vs<;>cases ds<;>first | rfl | cases h
  | cons t ts ih =>
   intro vs ds ps h;cases vs with
   | nil=>cases h
   | cons v vs =>
    cases ds with
    | nil=>cases h
    | cons d ds=>obtain⟨_,_,_,h,_⟩:=h;simp [ih h]
 have hds:=hfn ds (hlen hA);have pre:Pre (T8 (Kc ks)) W (λ_=>none) (Zw W) (xs.map .d) args.toList:=⟨h2,λn o h=>by
  obtain⟨k,hm,rfl⟩:=A3v h;exact⟨rfl,hk _ hm⟩,λn m b _ _ h3 _=>(by cases h3),λn b _ h3=>(by cases h3),λb h=>h⟩
 have hc:=hac xs h1 W (λ_=>none) (Zw W) args.toList pre;rw [Array.toArray_toList] at hc;refine hc.mono λe W' ⟨cv,σ',Z',he,hp⟩ => ?_;subst he;have hcv:cv = .bool true:=J5 hp.res;subst hcv;have hb:Below W.heap.size W W':=⟨hp.os,hp.tape,hp.output,hp.size,λk hk=>hp.block k hk (λ⟨m,_,h3⟩=>by cases h3)⟩;have hlt:∀ x∈p,x.block<W.heap.size:=λx hx=>hW'.lt x (by rw [hpq];simpa using hx);refine⟨_,rfl,Ye (pa:=p) (pv:=[]) hW' ?_ ?_ ?_ hpq hb ?_⟩
 ·intro b sp hd;rw [List.append_nil,hds,hres];exact trodAll_mk1 (shut_bool htb true)
 ·intro sp hsp;rw [List.append_nil,hds,hts];exact Es hl hb hread hA hlt (λx hx=>hsp x (by rw [hpq];simpa using hx))
 ·intro sp _;rw [List.append_nil,hds,hvars];rfl
 ·exact ok_one hres rfl (okWide_bool_mk htb true)
end
end Go.Vc
namespace Go.Vc
open Go
theorem F8 {n:Int} (h:-9223372036854775808<=n) (h':n<=9223372036854775807):w64 n=n:=by
 unfold w64;rw [IntWalk.i64_left,IntWalk.wrap64_in n ⟨h,h'⟩]
theorem A1q {α:Type} {xs:List α} {k:Nat} {x:α} (h:xs[k]? = some x):idx xs (k:Int)=some x:=by
 unfold idx;rw [if_pos (by omega)];simpa using h
theorem A3w {St X:Type} {tb:St->Option (X⊕St)} (I:St->Prop) (μ:St->Nat) (out:X->Prop)
  (h:∀ s,I s->(∃ x,out x∧tb s=some (.inl x))∨∃ s',I s'∧μ s'<μ s∧tb s=some (.inr s')) {s:St} (hs:I s):∃ x,out x∧loop tb s=some x:=by
 have key:∀ (n:Nat) (s:St),μ s<=n->I s->∃ x,out x∧loop tb s=some x:=by
  intro n;induction n with
  | zero =>
   intro s hn hi;rcases h s hi with ⟨x,hx,e⟩ | ⟨s',_,hlt,_⟩
   ·exact⟨x,hx,Un e⟩
   ·omega
  | succ n ih =>
   intro s hn hi;rcases h s hi with ⟨x,hx,e⟩ | ⟨s',hi',hlt,e⟩
   ·exact⟨x,hx,Un e⟩
   ·obtain⟨x,hx,e'⟩:=ih s' (by omega) hi';exact⟨x,hx,A3u e e'⟩
 exact key (μ s) s (Nat.le_refl _) hs
theorem FA.cons {p:D->Prop} {ps:List (D->Prop)} {xs:List D} (h:FA (p :: ps) xs):∃ d ds,xs=d :: ds∧p d∧FA ps ds:=by
 cases xs with
 | nil=>exact h.elim
 | cons d ds=>exact⟨d,ds,rfl,h.1,h.2⟩
theorem FA.nil {xs:List D} (h:FA [] xs):xs=[]:=by
 cases xs with
 | nil=>rfl
 | cons _ _=>exact h.elim
end Go.Vc
namespace Go.Vc
open Go
variable {P:Program} {B:D5} {ops:Array Oper}
theorem Ew {Z:Nat->Prop} {w:World}:∀ {xs ys:List D} {cs:List Value},D.repL Z w (xs++ys) cs->∃ c1 c2,cs=c1++c2∧D.repL Z w xs c1∧D.repL Z w ys c2
 | [],_,cs,h=>⟨[],cs,rfl,rfl,h⟩
 | x :: xs,ys,cs,h=>by
  obtain⟨c1,c2,h1,h2,h3⟩:=h;obtain⟨d1,d2,g1,g2,g3⟩:=Ew h3;exact⟨c1++d1,d2,by rw [h1,g1,List.append_assoc],⟨c1,d1,rfl,h2,g2⟩,g3⟩
theorem Sim.splice {env:Env} {ob:Obs} {a:Act} {w:World} {σ:Nat->Option Nat} {Z:Nat->Prop} (sm:Sim B env ob a w σ Z) {nm e sz k b:Nat} {es ys es':List D} {news:List Value} (hob:ob nm=some (some (.row e sz es))) (hb:σ nm=some b)
  (hys:D.repL Z w ys news) (hysz:∀ y∈ys,y.sz=sz) (hk:k+ys.length<=es.length) (hes:es'=es.take k++ys++es.drop (k+ys.length)) :
  ∃ cur,w.heap[b]? = some (.cells cur e (0,0))∧k*sz+news.length<=cur.size ∧
   Sim B env (B9 ob nm (some (.row e sz es'))) a (w.setRow b (cur.toList.take (k*sz)++news++cur.toList.drop (k*sz+news.length)).toArray) σ Z:=by
 have hro:=sm.obj nm _ hob;obtain⟨cur,cap,xs,hw,hcsz,hle,hcap,hr,hxl,htake⟩:=Ob.row_cells hro hb;have hnl:news.length=ys.length*sz:=by rw [D.repL_len _ _ hys,D.szL_all _ hysz]
 have hxs:xs.length<=cur.size:=by rw [hxl,hcsz];exact Nat.mul_le_mul_right _ hle
 have hfit:k*sz+news.length<=xs.length:=by
  rw [hnl,hxl,<- Nat.add_mul];exact Nat.mul_le_mul_right _ hk
 have e0:es=es.take k++((es.drop k).take ys.length++es.drop (k+ys.length)):=by
  rw [<- List.drop_drop,List.take_append_drop,List.take_append_drop]
 rw [e0] at hr;obtain⟨c1,c23,q1,r1,r23⟩:=Ew hr;obtain⟨c2,c3,q2,r2,r3⟩:=Ew r23;subst q2;have hsz:=hro.2.1;have l1:c1.length=k*sz:=by rw [D.repL_len _ _ r1,D.szL_all _ (λx hx=>hsz x (List.mem_of_mem_take hx)),List.length_take,Nat.min_eq_left (by omega)]
 have l2:c2.length=news.length:=by
  rw [D.repL_len _ _ r2,D.szL_all _ (λx hx=>hsz x (List.mem_of_mem_drop (List.mem_of_mem_take hx))),List.length_take,List.length_drop,Nat.min_eq_left (by omega),hnl]
 have hnew:D.repL Z w es' (c1++news++c3):=by
  rw [hes];exact D.repL_append _ _ _ _ (D.repL_append _ _ _ _ r1 hys) r3
 have hlen':es'.length=es.length:=by rw [hes];simp only [List.length_append,List.length_take,List.length_drop];omega
 have hcl:cur.toList.length=cur.size:=Array.length_toList;have hlen:(cur.toList.take (k*sz)++news++cur.toList.drop (k*sz+news.length)).length=cur.size:=by
  simp only [List.length_append,List.length_take,List.length_drop,hcl];omega
 obtain⟨T,hT⟩:∃ T,cur.toList=xs++T:=by
  have:=List.take_append_drop (es.length*sz) cur.toList;rw [htake] at this;exact⟨_,this.symm⟩
 have t1:cur.toList.take (k*sz)=c1:=by
  rw [hT,List.take_append_of_le_length (by omega),q1,<- l1,List.take_left'];rfl
 have t2:cur.toList.drop (k*sz+news.length)=c3++T:=by
  rw [hT,List.drop_append_of_le_length (by omega),q1,<- List.append_assoc,List.drop_left' (by simp [l1,l2])]
 refine⟨cur,hw,by omega,sm.setObj hob hb hw (by simpa using hlen) λob' m => ?_⟩;have hxl':(c1++news++c3).length=es'.length*sz:=by
  have:=hxl;rw [q1] at this;rw [hlen'];simp only [List.length_append] at this ⊢;omega
 refine⟨hro.1,λy' hy' => ?_,.slice (some ⟨b,0,none⟩) es'.length cap,c1++news++c3,⟨hxl',.inr ⟨b,cap,_,rfl,Nat.zero_le _,setRow_heap w b cur _ e (0,0) hw,by omega,by simpa [maxLen] using hcap,?_,?_⟩⟩,?_,?_,?_⟩
 ·rw [hes] at hy';rcases List.mem_append.1 hy' with hy' | hy'
  ·rcases List.mem_append.1 hy' with hy' | hy'
   ·exact hsz y' (List.mem_of_mem_take hy')
   ·exact hysz y' hy'
  ·exact hsz y' (List.mem_of_mem_drop hy')
 ·rw [<- hcsz];simpa using hlen
 ·rw [t1,t2,<- hxl',<- List.append_assoc];exact List.take_left' rfl
 ·exact D.repL_ext m.ext es' _ hnew
 ·simp [Value.ownBlock,hb]
 ·intro hnone;rw [hb] at hnone;cases hnone
section
variable {d:Nat} {x y:Operand} {ty:TypeId} {pos:String} {af:Array Edge} {nt nt':List (Nat×V)}
end
end Go.Vc
namespace Go.Vc
open Go
def Tot {α:Type} (o:Option α) (P:α->Prop):Prop:=∃ x,o=some x∧P x
section
variable {α β S X:Type} {P:α->Prop}
theorem Tot.some {x:α} (h:P x):Tot (some x) P:=⟨x,rfl,h⟩
theorem Tot.mono {o:Option α} {P':α->Prop} (h:Tot o P') (k:∀ x,P' x->P x):Tot o P:=by
 obtain⟨x,e,hx⟩:=h;exact⟨x,e,k x hx⟩
theorem Tot.bind {o:Option β} {f:β->Option α} (h:Tot o (λx=>Tot (f x) P)):Tot (o.bind f) P:=by
 obtain⟨x,e,y,e',hy⟩:=h;exact⟨y,by rw [e];exact e',hy⟩
theorem Tot.bindOf {o:Option β} {x:β} {f:β->Option α} (e:o=Option.some x) (h:Tot (f x) P):Tot (o.bind f) P:=Tot.bind ⟨x,e,h⟩
theorem Tot.bindT {o:Option β} {f:β->Option α} {P':β->Prop} (h:Tot o P') (k:∀ x,P' x->Tot (f x) P):Tot (o.bind f) P:=Tot.bind (h.mono k)
theorem Tot.ite {b:Bool} {x y:Option α} (h1:b=true->Tot x P) (h2:b=false->Tot y P):Tot (if b=true then x else y) P:=by
 cases b
 ·rw [if_neg (by simp)];exact h2 rfl
 ·rw [if_pos rfl];exact h1 rfl
theorem Tot.chk {p:Bool} {k:Option α} (h:p=true) (hk:Tot k P):Tot (chk p k) P:=by rw [h];exact hk
theorem Tot.jnR {M:Type} {rest:M->Option α} {body:(M->Option α)->Option α} (R:M->Prop) (h:∀ j:M->Option α,(∀ m,R m->Tot (j m) P)->Tot (body j) P) (k:∀ m,R m->Tot (rest m) P):Tot (Vc.jn rest body) P:=h rest k
theorem Tot.idx {xs:List α} {i:Int} (k:Nat) (e:i=k) (hk:k<xs.length) (h:P xs[k]):Tot (idx xs i) P:=by
 subst e;exact⟨xs[k],A1q (List.getElem?_eq_getElem hk),h⟩
theorem Tot.bindIdx {xs:List β} {i:Int} {f:β->Option α} (k:Nat) (e:i=k) (hk:k<xs.length) (h:Tot (f xs[k]) P):Tot ((Vc.idx xs i).bind f) P:=Tot.bind (Tot.idx k e hk h)
theorem Tot.eq {o:Option α} {x:α} (h:Tot o (λy=>y=x)):o=Option.some x:=by obtain⟨y,e,rfl⟩:=h;exact e
def Rnd (I:S->Prop) (μ:S->Nat) (Q:X->Prop) (s:S):X⊕S->Prop
 | .inl x=>Q x
 | .inr s'=>I s'∧μ s'<μ s
variable {I:S->Prop} {μ:S->Nat} {Q:X->Prop}
theorem Tot.out {s:S} {x:X} (h:Q x):Tot (Option.some (Sum.inl x:X⊕S)) (Rnd I μ Q s):=⟨_,rfl,h⟩
theorem Tot.next {s s':S} (h:I s') (hm:μ s'<μ s):Tot (Option.some (Sum.inr s':X⊕S)) (Rnd I μ Q s):=⟨_,rfl,h,hm⟩
theorem Tot.loop {tb:S->Option (X⊕S)} (I:S->Prop) (μ:S->Nat) (Q:X->Prop) (h:∀ s,I s->Tot (tb s) (Rnd I μ Q s)) {s:S} (hs:I s):Tot (Vc.loop tb s) Q:=by
 obtain⟨x,hx,e⟩:=A3w I μ Q (λs hi=>by
  obtain⟨y,e,hy⟩:=h s hi;cases y with
  | inl x=>exact .inl ⟨x,hy,e⟩
  | inr s'=>exact .inr ⟨s',hy.1,hy.2,e⟩) hs
 exact⟨x,e,hx⟩
end
end Go.Vc
namespace Go.Vc
open Go
variable {P:Program} {B:D5} {ops:Array Oper}
mutual
inductive Tw (L:V->V->Prop):V->V->Prop
 | leaf {x y:V}:L x y->Tw L x y
 | same (x:V):Tw L x x
 | st {fs gs:List V}:TwL L fs gs->Tw L (.st fs) (.st gs)
inductive TwL (L:V->V->Prop):List V->List V->Prop
 | nil:TwL L [] []
 | cons {f g:V} {fs gs:List V}:Tw L f g->TwL L fs gs->TwL L (f :: fs) (g :: gs)
end
structure Bc (L:V->V->Prop) (ob ob':Obs) (σ σ':Nat->Option Nat) (Z Z':Nat->Prop) (w w':World):Prop where
 agg:∀ x y,L x y->x.isAgg=y.isAgg∧x.sz=y.sz∧x ≠ .junk∧y.isTop=false∧x.isTop=false
 rep:∀ x y,L x y->∀ cs,V.rep ob σ Z w x cs->V.rep ob' σ' Z' w' y cs
section
variable {L:V->V->Prop} {ob ob':Obs} {σ σ':Nat->Option Nat} {Z Z':Nat->Prop} {w w':World}
mutual
theorem Tw.sz (h:Bc L ob ob' σ σ' Z Z' w w'):∀ {x y:V},Tw L x y->x.sz=y.sz
 | _,_,.leaf hl=>(h.agg _ _ hl).2.1
 | _,_,.same _=>rfl
 | _,_,.st hs=>TwL.sz h hs
theorem TwL.sz (h:Bc L ob ob' σ σ' Z Z' w w'):∀ {xs ys:List V},TwL L xs ys->V.szL xs=V.szL ys
 | _,_,.nil=>rfl
 | _,_,.cons h1 h2=>by simp only [V.szL,Tw.sz h h1,TwL.sz h h2]
end
theorem Tw.agg (h:Bc L ob ob' σ σ' Z Z' w w'):∀ {x y:V},Tw L x y->x.isAgg=y.isAgg
 | _,_,.leaf hl=>(h.agg _ _ hl).1
 | _,_,.same _=>rfl
 | _,_,.st _=>rfl
theorem Tw.top (h:Bc L ob ob' σ σ' Z Z' w w'):∀ {x y:V},Tw L x y->x=y∨(x.isTop=false∧y.isTop=false∧x ≠ .junk)
 | _,_,.leaf hl => .inr ⟨(h.agg _ _ hl).2.2.2.2,(h.agg _ _ hl).2.2.2.1,(h.agg _ _ hl).2.2.1⟩
 | _,_,.same _ => .inl rfl
 | _,_,.st _ => .inr ⟨rfl,rfl,by simp⟩
mutual
theorem Tw.rep (h:Bc L ob ob' σ σ' Z Z' w w') (m:K4 ob ob' σ σ' Z Z' w w'):∀ {x y:V} {cs:List Value},Tw L x y->V.rep ob σ Z w x cs->V.rep ob' σ' Z' w' y cs
 | _,_,_,.leaf hl,hr=>h.rep _ _ hl _ hr
 | _,_,_,.same x,hr=>V.rep_move m x _ hr
 | _,_,_,.st hs,hr=>TwL.rep h m hs hr
theorem TwL.rep (h:Bc L ob ob' σ σ' Z Z' w w') (m:K4 ob ob' σ σ' Z Z' w w'):∀ {xs ys:List V} {cs:List Value},TwL L xs ys->V.repS ob σ Z w xs cs->V.repS ob' σ' Z' w' ys cs
 | _,_,_,.nil,hr=>hr
 | _,_,_,.cons h1 h2,hr=>by
  obtain⟨c1,c2,e,g1,g2,g3,g4⟩:=hr;exact⟨c1,c2,e,g1.trans (Tw.sz h h1),g2,Tw.rep h m h1 g3,TwL.rep h m h2 g4⟩
end
theorem Tw.repT (h:Bc L ob ob' σ σ' Z Z' w w') (m:K4 ob ob' σ σ' Z Z' w w') {x y:V} {v:Value} (ht:Tw L x y) (hr:D0 ob σ Z w v x):D0 ob' σ' Z' w' v y:=by
 rcases ht.top h with e | ⟨h1,h2,h3⟩
 ·subst e;exact hr.move m
 ·have hv:=hr.to h1;refine D0.of ?_ h2;unfold F3 at hv ⊢;rw [<- ht.agg h]
  by_cases hx:x.isAgg=true
  ·rw [if_pos hx] at hv ⊢;obtain⟨cs,g1,g2⟩:=hv;exact⟨cs,g1,ht.rep h m g2⟩
  ·rw [if_neg hx] at hv ⊢;refine⟨ht.rep h m hv.1,.inr ?_⟩;rcases hv.2 with g | g
   ·exact absurd g h3
   ·exact g
end
variable {E Ts:EL} {Bs:OL}
inductive TwT (L:V->V->Prop) (E:EL):EL->Prop
 | nil:TwT L E []
 | cons {k:Nat} {x y:V} {ts:EL}:A1 E k=some x->Tw L x y->TwT L E ts->TwT L E ((k,y) :: ts)
inductive TwB (L:V->V->Prop) (O:OL):OL->Prop
 | nil:TwB L O []
 | cons {m:Nat} {t:TypeId} {x y:V} {bs:OL}:A1 O m=some (some (.box t x))->Tw L x y->TwB L O bs->TwB L O ((m,some (.box t y)) :: bs)
 | row {m:Nat} {e:TypeId} {sz:Nat} {fs gs:List V} {bs:OL}:A1 O m=some (some (.vrow e sz fs))->TwL L fs gs->TwB L O bs->TwB L O ((m,some (.vrow e sz gs)) :: bs)
theorem TwT.get {L:V->V->Prop} {E:EL}:∀ {ts:EL},TwT L E ts->∀ {k:Nat} {y:V},A1 ts k=some y->∃ x,A1 E k=some x∧Tw L x y
 | _,.nil,_,_,h=>by simp [A1] at h
 | _,.cons h1 h2 h3,k,y,h=>by
  rw [A4] at h;split at h
  ·rename_i e;subst e;cases h;exact⟨_,h1,h2⟩
  ·exact h3.get h
def Ob.soft:Ob->Bool
 | .box .. => true
 | .vrow .. => true
 | _=>false
inductive TwO (L:V->V->Prop):Ob->Ob->Prop
 | box {t:TypeId} {x y:V}:Tw L x y->TwO L (.box t x) (.box t y)
 | row {e:TypeId} {sz:Nat} {fs gs:List V}:TwL L fs gs->TwO L (.vrow e sz fs) (.vrow e sz gs)
theorem TwB.get {L:V->V->Prop} {O:OL}:∀ {bs:OL},TwB L O bs->∀ {m:Nat} {o:Option Ob},A1 bs m=some o->∃ x y,A1 O m=some (some x)∧o=some y∧TwO L x y
 | _,.nil,_,_,h=>by simp [A1] at h
 | _,.cons h1 h2 h3,m,o,h=>by
  rw [A4] at h;split at h
  ·rename_i e;subst e;cases h;exact⟨_,_,h1,rfl,.box h2⟩
  ·exact h3.get h
 | _,.row h1 h2 h3,m,o,h=>by
  rw [A4] at h;split at h
  ·rename_i e;subst e;cases h;exact⟨_,_,h1,rfl,.row h2⟩
  ·exact h3.get h
theorem TwL.len {L:V->V->Prop}:∀ {fs gs:List V},TwL L fs gs->gs.length=fs.length
 | _,_,.nil=>rfl
 | _,_,.cons _ h=>by simp [h.len]
theorem TwL.szs {L:V->V->Prop} {ob ob':Obs} {σ σ':Nat->Option Nat} {Z Z':Nat->Prop} {w w':World} (hL:Bc L ob ob' σ σ' Z Z' w w') {sz:Nat}:∀ {fs gs:List V},TwL L fs gs->(∀ x∈fs,x.sz=sz)->∀ x∈gs,x.sz=sz
 | _,_,.nil,_,x,h=>by cases h
 | _,_,.cons ht h,hs,x,hx=>by
  rcases List.mem_cons.1 hx with e | hx
  ·subst e;exact(ht.sz hL).symm.trans (hs _ (List.mem_cons_self ..))
  ·exact h.szs hL (λy hy=>hs y (List.mem_cons_of_mem _ hy)) x hx
theorem Sim.turn {O0 O1:OL} {a:Act} {w:World} {σ0 σ:Nat->Option Nat} {Z0 Z:Nat->Prop} {L:V->V->Prop} (s0:Sim B (A1 E) (A1 O0) a w σ0 Z0) (s:Sim B (A1 E) (A1 O1) a w σ Z) (m:K4 (A1 O0) (A1 O1) σ0 σ Z0 Z w w) (hL:Bc L (A1 O0) (A1 O1) σ0 σ Z0 Z w w) (hO:∀ q o,A1 O1 q=some (some o)->o.soft=true->A1 O0 q=some (some o)∧σ q=σ0 q) (hT:TwT L E Ts) (hB:TwB L O1 Bs):Sim B (A1 (Ts++E)) (A1 (Bs++O1)) a w σ Z:=by
 have hlv:∀ n,live (A1 (Bs++O1)) n↔live (A1 O1) n:=λn=>by
  unfold live;rw [M4];cases hb:A1 Bs n with
  | none=>rfl
  | some o =>
   obtain⟨x,y,h1,h2,_⟩:=hB.get hb;subst h2;exact⟨λ_=>⟨_,h1⟩,λ_=>⟨_,rfl⟩⟩
 have hus:∀ n,used (A1 O1) n->used (A1 (Bs++O1)) n:=λn h=>by
  unfold used at *;rw [M4];cases hb:A1 Bs n with
  | none=>exact h
  | some o=>simp
 have m2:K4 (A1 O1) (A1 (Bs++O1)) σ σ Z Z w w:=⟨Ext.refl _ _,hus,λn _ h=>⟨(hlv n).1 h,rfl⟩,λ_ _ _ _ _=>rfl⟩;refine { s with env:=?_,obj:=?_,inj:=λp q k hp hq=>s.inj p q k ((hlv p).1 hp) ((hlv q).1 hq),blk:=λp k hp=>s.blk p k ((hlv p).1 hp),pin:=λp k hpin hp=>s.pin p k hpin ((hlv p).1 hp),shp:=λp k hpin hp=>s.shp p k hpin ((hlv p).1 hp),foot:=?_ }
 ·intro k y hk;rw [M4] at hk;cases ht:A1 Ts k with
  | none =>
   rw [ht] at hk;obtain⟨v,h1,h2⟩:=s.env k y hk;exact⟨v,h1,h2.move m2⟩
  | some z =>
   rw [ht] at hk;cases hk;obtain⟨x,hx,htw⟩:=hT.get ht;obtain⟨v,h1,h2⟩:=s0.env k x hx;exact⟨v,h1,(htw.repT hL m h2).move m2⟩
 ·intro n o hn;rw [M4] at hn;cases hb:A1 Bs n with
  | none =>
   rw [hb] at hn;exact Ob.rep_move m2 (s.obj n o hn) rfl (λ_ _=>rfl)
  | some q =>
   rw [hb] at hn;cases hn;obtain⟨x,y,h1,h2,htw⟩:=hB.get hb;cases h2;cases htw with
   | box htw =>
    obtain⟨g1,g2⟩:=hO n _ h1 rfl;obtain⟨b,cs,k1,k2,k3,k4,k5⟩:=s0.obj n _ g1;exact⟨b,cs,g2.trans k1,k2,k3,k4.trans (htw.sz hL),V.rep_move m2 _ _ (htw.rep hL m k5)⟩
   | row htw =>
    obtain⟨g1,g2⟩:=hO n _ h1 rfl;obtain⟨h0,h00,v,xs,k1,k2,k3,k4,k5⟩:=s0.obj n _ g1;refine⟨h0,htw.szs hL h00,v,xs,by rw [htw.len];exact k1,k2,V.repS_move m2 _ _ ((Tw.st htw).rep hL m k3),k4.trans g2.symm,λhn => ?_⟩;exact List.eq_nil_of_length_eq_zero (by rw [htw.len,k5 (g2.symm.trans hn)];rfl)
 ·refine s.foot.move (Ext.refl _ _) (Nat.le_refl _) (λq r h=>⟨?_,rfl⟩) (λ_ _ _ _=>rfl) (λ_ _ _ _=>rfl) (λ_ h => .inl h) λq b h hb => .inr ⟨q,(hlv q).1 h,hb⟩;rw [M4] at h;cases hb:A1 Bs q with
  | none=>rw [hb] at h;exact h
  | some o =>
   obtain⟨x,y,_,h2,htw⟩:=hB.get hb;rw [hb,h2] at h;cases htw<;>simp at h
def A09 (n sz:Nat) (x y:V):Prop:=x = .nils∧y = .sref n sz 0 0
theorem Mat.beginP {O:OL} {n e sz:Nat} (hB:B.ok) (hsz:0<sz) (hn:A1 O n=none) (h1000:1000<=n) (hT:TwT (A09 n sz) E Ts) (hBs:TwB (A09 n sz) ((n,some (.row e sz [])) :: O) Bs) :
  Mat B E O (Ts++E) (Bs++(n,some (.row e sz [])) :: O):=λa w σ Z s=>by
 have s2:=s.rowNew0 hB (nm:=n) hn h1000 (g':=none) (World.grownBy.refl w _) (.inl rfl)
  (o:=.row e sz []) λob' σ' m hσ=>⟨hsz,(λ_ h=>by cases h),.slice none 0 0,[],World.ownsRow_nil w 0 e sz,rfl,hσ.symm,λ_=>rfl⟩
 rw [<- V7] at s2;refine⟨_,_,s2.turn s2 (K4.refl _ _ _ _) ⟨?_,?_⟩ (λq o h _=>⟨h,rfl⟩) hT hBs⟩
 ·rintro x y ⟨rfl,rfl⟩;exact⟨rfl,rfl,by simp,rfl,rfl⟩
 ·rintro x y ⟨rfl,rfl⟩ cs hr;have hc:cs=[.slice none 0 0]:=hr;subst hc;refine⟨by unfold used;rw [A4];simp,λ_=>⟨none,0,rfl,Nat.le_refl _,by omega,.inl ⟨by simp [G3],rfl,rfl,rfl⟩⟩⟩
def Tc (x y:V):Prop:=∃ d,Co x d∧y = .d d
theorem Js {x:V} {d:D} (h:Co x d):x ≠ .junk:=by cases h<;>simp
mutual
theorem Co.sz:∀ {x:V} {y:D},Co x y->x.sz=y.sz
 | _,_,.d _=>rfl
 | _,_,.nils _=>rfl
 | _,_,.st h=>CoL.sz h
theorem CoL.sz:∀ {xs:List V} {ys:List D},CoL xs ys->V.szL xs=D.szL ys
 | _,_,.nil=>rfl
 | _,_,.cons h1 h2=>by simp only [V.szL,D.szL,Co.sz h1,CoL.sz h2]
end
theorem Mat.coeP {E Ts:EL} {O Bs:OL} (hT:TwT Tc E Ts) (hBs:TwB Tc O Bs):Mat B E O (Ts++E) (Bs++O):=λa w σ Z s=>by
 refine⟨_,_,s.turn s (K4.refl _ _ _ _) ⟨?_,?_⟩ (λq o h _=>⟨h,rfl⟩) hT hBs⟩
 ·rintro x y ⟨d,hc,rfl⟩;exact⟨hc.agg,hc.sz,Js hc,rfl,hc.notTup⟩
 ·rintro x y ⟨d,hc,rfl⟩ cs hr;exact hc.rep hr
theorem A0a {ob:Obs} {σ:Nat->Option Nat} {Z:Nat->Prop} {w:World}:Bc Tc ob ob σ σ Z Z w w :=
 ⟨λx y h=>by obtain⟨d,hc,rfl⟩:=h;exact⟨hc.agg,hc.sz,Js hc,rfl,hc.notTup⟩,λx y h cs hr=>by obtain⟨d,hc,rfl⟩:=h;exact hc.rep hr⟩
theorem Opd.tw {x:Operand} {v v':V} {nt:List (Nat×V)} (hx:Opd x v nt) (h:Tw Tc v v'):Opd x v' nt:=λB env ob a w σ Z s hn=>h.repT A0a (K4.refl _ _ _ _) (hx B env ob a w σ Z s hn)
def Wx (n sz:Nat) (es:List D) (x y:V):Prop:=(∃ off len fs,x = .sref n sz off len∧y = .d (.list sz fs)∧off+len<=es.length∧fs=(es.drop off).take len)∨(x.isAgg=false∧x.sz=1∧x ≠ .junk∧x.isTop=false∧y = .junk)
theorem Wx.all {n sz:Nat} {es:List D} {len:Nat} (h:len=es.length):Tw (Wx n sz es) (.sref n sz 0 len) (.d (.list sz es)):=.leaf (.inl ⟨0,len,es,rfl,rfl,by omega,by subst h;simp⟩)
theorem Sim.settle {env:Env} {ob:Obs} {a:Act} {w:World} {σ:Nat->Option Nat} {Z:Nat->Prop} (s:Sim B env ob a w σ Z) {n e sz:Nat} {es:List D} (hn:ob n=some (some (.row e sz es))) :
  ∃ Z',Sim B env (B9 ob n none) a w σ Z'∧K4 ob (B9 ob n none) σ σ Z Z' w w∧∀ off len cs,V.rep ob σ Z w (.sref n sz off len) cs->off+len<=es.length->D.rep Z' w (.list sz ((es.drop off).take len)) cs:=by
 have hl:live ob n:=⟨_,hn⟩;have sk:=s.kill n;have hro:=s.obj n _ hn;have hlv:∀ m,live (B9 ob n none) m->m≠n∧live ob m:=λm hm=>by
  rw [C1] at hm
  by_cases hmn:m=n
  ·rw [if_pos hmn] at hm;simp at hm
  ·rw [if_neg hmn] at hm;exact⟨hmn,hm⟩
 cases hσ:σ n with
 | none =>
  refine⟨Z,sk,⟨Ext.refl _ _,λ_ h=>S4 h,λm _ h=>⟨(hlv m h).2,rfl⟩,λ_ _ _ _ _=>rfl⟩,λoff len cs hr hle => ?_⟩;obtain⟨_,hr⟩:=hr;obtain⟨ad,c,hc,h1,h2,h3⟩:=hr hl;rcases h3 with ⟨_,k2,k3,k4⟩ | ⟨b,e',hb,_⟩
  ·have:len=0:=by omega
   subst this;exact⟨ad,c,by simpa using hc,by simp,h2,.inl (by simp)⟩
  ·rw [hσ] at hb;cases hb
 | some b =>
  obtain⟨cur,cap,xs,m1,m2,m3,m4,m5,m6,m7⟩:=Ob.row_cells hro hσ;obtain⟨hz,hbb⟩:=s.blk n b hl hσ;have hblt:=s.lt hl hσ;have mv:K4 ob (B9 ob n none) σ σ Z (λq=>Z q∨q=b) w w:=⟨⟨λ_ h => .inl h,λ_ _=>rfl⟩,λ_ h=>S4 h,λm _ h=>⟨(hlv m h).2,rfl⟩,λ_ _ _ _ _=>rfl⟩;have s1:Sim B env (B9 ob n none) a w σ (λq=>Z q∨q=b):=by
   have m:K4 (B9 ob n none) (B9 ob n none) σ σ Z (λq=>Z q∨q=b) w w:=⟨⟨λ_ h => .inl h,λ_ _=>rfl⟩,λ_ h=>h,λ_ _ h=>⟨h,rfl⟩,λ_ _ _ _ _=>rfl⟩;refine { sk with env:=?_,obj:=?_,blk:=?_,zlt:=?_,zsub:=λq h => .inl (sk.zsub q h),znew:=?_,foot:=s.foot.settle hl hσ }
   ·intro j x hj;obtain⟨u,h1,h2⟩:=sk.env j x hj;exact⟨u,h1,h2.move m⟩
   ·intro q o hq;exact Ob.rep_move m (sk.obj q o hq) rfl (λ_ _=>rfl)
   ·intro p q hp hq;obtain⟨g1,g2⟩:=sk.blk p q hp hq;refine⟨λh => ?_,g2⟩;rcases h with h | h
    ·exact g1 h
    ·subst h;exact(hlv p hp).1 (s.inj p n q (hlv p hp).2 hl hq hσ)
   ·intro q h;rcases h with h | h
    ·exact sk.zlt q h
    ·subst h;exact hblt
   ·intro q h;rcases h with h | h
    ·exact sk.znew q h
    ·subst h;exact .inr hbb
  refine⟨_,s1,mv,λoff len cs hr hle => ?_⟩;obtain⟨_,hr⟩:=hr;obtain⟨ad,c,hc,h1,h2,h3⟩:=hr hl;have hlen:((es.drop off).take len).length=len:=by simp;omega
  rcases h3 with ⟨k1,_⟩ | ⟨b',e',hb,ha,hsh,h0⟩
  ·rw [hσ] at k1;cases k1
  ·have:b'=b:=Option.some.inj (hb.symm.trans hσ);subst this;refine⟨ad,c,by rw [hc,hlen],by rw [hlen];exact h1,h2,?_⟩
   by_cases hc0:c=0
   ·left;have hl0:len=0:=by omega
    subst hl0;simp
   ·right;have hext:Ext Z (λq=>Z q∨q=b') w w:=⟨λ_ h => .inl h,λ_ _=>rfl⟩;have hat:G6 w b' 0 xs:=λj u hj=>by
     rw [Nat.zero_add,cell_of_row w b' j cur e (0,0) m1];rw [<- m7,List.getElem?_take] at hj;split at hj
     ·simpa using hj
     ·cases hj
    have hE:=D.repE_of_repL es b' 0 xs (D.repL_ext hext es xs m5) hro.2.1 hat;have hE2:=D.repE_take _ b' (0+off*sz) len (D.repE_drop es b' 0 off hE);rw [Nat.zero_add] at hE2;exact⟨b',off*sz,ha.resolve_left hc0,.inr rfl,λq hq=>hro.2.1 q (List.mem_of_mem_drop (List.mem_of_mem_take hq)),hE2⟩
theorem Mat.freezeP {E Ts:EL} {O Bs:OL} {n e sz:Nat} {es:List D} (hn:A1 O n=some (some (.row e sz es))) (hT:TwT (Wx n sz es) E Ts) (hBs:TwB (Wx n sz es) ((n,none) :: O) Bs) :
  Mat B E O (Ts++E) (Bs++(n,none) :: O):=λa w σ Z s=>by
 obtain⟨Z',s1,mv,hl⟩:=s.settle hn;rw [<- V7] at s1 mv;refine⟨_,_,s.turn s1 mv ⟨?_,?_⟩ (λq o h _=>⟨?_,rfl⟩) hT hBs⟩
 ·rintro x y (⟨off,len,fs,rfl,rfl,h1,h2⟩ | ⟨h1,h2,h3,h4,rfl⟩)
  ·exact⟨rfl,rfl,by simp,rfl,rfl⟩
  ·exact⟨h1,h2,h3,rfl,h4⟩
 ·rintro x y (⟨off,len,fs,rfl,rfl,h1,h2⟩ | ⟨h1,h2,h3,h4,rfl⟩) cs hr
  ·subst h2;exact hl off len cs hr h1
  ·trivial
 ·rw [A4] at h;split at h
  ·cases h
  ·exact h
end Go.Vc
namespace Go.Vc
open Go
variable {P:Program} {B:D5} {ops:Array Oper}
theorem Ro {w:World} {b0 e sz n k:Nat} {v:Value} {xs:List Value} (hk:k<=n) (h:w.ownsRow b0 e sz v n xs) :
  ∃ v',w.ownsRow b0 e sz v' k (xs.take (k*sz))∧v'.ownBlock=v.ownBlock:=by
 obtain⟨hl,h⟩:=h;have hm:k*sz<=n*sz:=Nat.mul_le_mul_right sz hk;rcases h with ⟨rfl,rfl⟩ | ⟨g,cap,cur,rfl,hb,hg,hc1,hc2,hs,ht⟩
 ·refine⟨.slice none 0 0,⟨by rw [List.length_take,hl];omega,.inl ⟨rfl,by omega⟩⟩,rfl⟩
 ·refine⟨.slice (some ⟨g,0,none⟩) k cap,⟨by rw [List.length_take,hl];omega,.inr ⟨g,cap,cur,rfl,hb,hg,by omega,hc2,hs,?_⟩⟩,rfl⟩;rw [<- ht,List.take_take,Nat.min_eq_left hm]
theorem Po {Z:Nat->Prop} {w:World} {sz:Nat}:∀ (es:List D) (cs:List Value) (k:Nat),(∀ x∈es,x.sz=sz)->D.repL Z w es cs->D.repL Z w (es.take k) (cs.take (k*sz))
 | [],cs,k,_,h=>by cases h;simp [D.repL]
 | e :: es,cs,0,_,h=>by simp [D.repL]
 | e :: es,cs,k+1,hs,h=>by
  obtain⟨c1,c2,rfl,h2,h3⟩:=h;have hl:=D.rep_len e c1 h2;rw [hs e (List.mem_cons_self ..)] at hl;refine⟨c1,c2.take (k*sz),?_,h2,Po es c2 k (λx hx=>hs x (List.mem_cons_of_mem _ hx)) h3⟩;rw [Nat.succ_mul,List.take_append,hl,show k*sz+sz-sz=k*sz from by omega,List.take_of_length_le (by omega)]
theorem Sim.shrink {env:Env} {ob:Obs} {a:Act} {w:World} {σ:Nat->Option Nat} {Z:Nat->Prop} (s:Sim B env ob a w σ Z) {n e sz k:Nat} {es:List D} (hn:ob n=some (some (.row e sz es))) (hk:k<=es.length) :
  Sim B env (B9 ob n (some (.row e sz (es.take k)))) a w σ Z:=by
 have hl:∀ m,live (B9 ob n (some (.row e sz (es.take k)))) m->live ob m:=λm ⟨o,h⟩=>by
  by_cases hm:m=n
  ·subst hm;exact⟨_,hn⟩
  ·exact⟨o,by simpa [B9,hm] using h⟩
 have m:K4 ob (B9 ob n (some (.row e sz (es.take k)))) σ σ Z Z w w:=⟨Ext.refl _ _,λm h=>by
   by_cases hm:m=n
   ·subst hm;simp [used,B9]
   ·simpa [used,B9,hm] using h,λm _ h=>⟨hl m h,rfl⟩,λ_ _ _ _ _=>rfl⟩
 refine { s with env:=?_,obj:=?_,inj:=λi j b hi hj=>s.inj i j b (hl i hi) (hl j hj),blk:=λi b hi=>s.blk i b (hl i hi),pin:=λi b hp hi=>s.pin i b hp (hl i hi),shp:=λi b hp hi=>s.shp i b hp (hl i hi),foot:=s.foot.same hl λr h=>by cases h }
 ·intro t x ht;obtain⟨v,h1,h2⟩:=s.env t x ht;exact⟨v,h1,h2.move m⟩
 ·intro i o hi
  by_cases hin:i=n
  ·subst hin;have ho:o = .row e sz (es.take k):=by simpa [B9] using hi.symm
   subst ho;obtain⟨h0,h1,v,xs,h2,h3,h4,h5⟩:=s.obj i _ hn;obtain⟨v',k1,k2⟩:=Ro hk h2;refine⟨h0,λx hx=>h1 x (List.mem_of_mem_take hx),v',xs.take (k*sz),?_,Po es xs k h1 h3,k2.trans h4,λh=>by rw [h5 h];simp⟩;rw [List.length_take,Nat.min_eq_left hk];exact k1
  ·have ho:ob i=some (some o):=by simpa [B9,hin] using hi
   have h:=s.obj i o ho;cases o with
   | box t x =>
    obtain⟨b,cs,h1,h2,h3,h4,h5⟩:=h;exact⟨b,cs,h1,h2,h3,h4,V.rep_move m x _ h5⟩
   | vrow e' sz' fs' =>
    obtain⟨h0,h00,v,xs,h1,h1',h2,h3,h4⟩:=h;exact⟨h0,h00,v,xs,h1,h1',V.repS_move m fs' xs h2,h3,h4⟩
   | row e' sz' es'=>exact h
   | blk sp=>exact h
   | know k=>exact h
   | reg r=>exact h
theorem OpJ.shrS {o:Oper} {nt:List (Nat×V)} {d nm e sz k:Nat} {es es':List D} {v:V} (h:OpJ P B ops o { nt,no:=[(nm,.row e sz es)],wt:=[(d,v)] }) (hk:k<=es.length) (he:es'=es.take k) :
  OpJ P B ops o { nt,no:=[(nm,.row e sz es)],wt:=[(d,v)],wo:=[(nm,some (.row e sz es'))] }:=by
 subst he;intro Q env ob a w σ Z K s hn hK;refine h Q env ob a w σ Z K s hn λa' w' σ' Z' s' => ?_;have hob:ob nm=some (some (.row e sz es)):=hn.2.1 (nm,.row e sz es) (by simp);rw [O8 (d:=d) (v:=v) _ rfl,C9 _ rfl] at s';refine hK a' w' σ' Z' ?_;rw [O8 (d:=d) (v:=v) _ rfl];have:=s'.shrink hob hk;have e2:Eff.obs { nt,no:=[(nm,.row e sz es)],wt:=[(d,v)],wo:=[(nm,some (.row e sz (es.take k)))] } ob=B9 ob nm (some (.row e sz (es.take k))):=by
  funext i;unfold B9 Eff.obs;simp only [Ft]
  by_cases hi:i=nm
  ·simp [hi]
  ·simp [hi,Ne.symm hi]
 rw [e2];exact this
section
variable {d:Nat} {x y i:Operand} {ty:TypeId} {pos:String} {af:Array Edge}
theorem OpJ.buildSliceR {t e:TypeId} {sz:Nat} {ag:Bool} {z:D} (hu:P.underlying t=some (.slice e)) (ht:TyS P e sz ag) (hz:TyZ P e (.d z)) (hzs:z.sz=sz) (h0:0<sz) {n:Nat} (hn24:n*sz<=16777216) (hB:B.ok) {nm:Nat} (hnm:1000<=nm) {len:Nat} (hlen2:len=n)
  {parts:List (Nat×Operand)} {vs:List (Nat×V)} {nt:List (Nat×V)} (hx:Ki parts vs nt) (hok:R2 ((List.range n).map λi=>(i*sz,sz)) (List.replicate n (.d z)) vs=true)
  {es:List D} (hes:es.map V.d=Q3 (List.replicate n (.d z)) vs) (hel:es.length=n) (hsz:D.szs sz es=true) (hpn:∀ p∈parts,p.1<n) (hN:d<B.N) :
  OpJ P B ops ⟨some d,.buildSlice t n parts.toArray,ty,pos,af,none⟩ { nt,nf:=[nm],wt:=[(d,.sref nm sz 0 len)],wo:=[(nm,some (.row e sz es))] } :=
 OpJ.run rfl rfl hN rfl λenv ob a w σ Z sm hne=>by
  have hzp:z.plain=true:=hz.plain;have hrep:=D.rep_enc (Z:=Z) (w:=w) z hzp;have hzl:=D.rep_len z _ hrep;have hcells:(D3 (V.d z).isAgg (V.d z).enc).cells=z.enc.toArray:=by
   have:=hz.cells;rw [<- Array.toArray_toList (xs:=(D3 (V.d z).isAgg (V.d z).enc).cells),this];rfl
  have hzr:=H4 (Z:=Z) (w:=w) hzp n;have hV:V.repS ob σ Z w (List.replicate n (.d z)) (List.replicate n z.enc).flatten:=by
   have:=V5 (ob:=ob) (σ:=σ) hzr;simpa using this
  have hone:∀ u∈(List.replicate n z.enc).flatten,u.oneCell'=true:=D.repL_one _ _ hzr;obtain⟨cells',k1,k2,k3⟩:=V6 sm hx hne.1 (cells:=(List.replicate n z.enc).flatten.toArray) hok (by simpa using hV) (by
   have:=D.repL_len _ _ hzr;rw [List.size_toArray,this];rw [<- N2];simp) (by simpa using hone)
  rw [<- hes] at k2;have hL:=Fw k2;have hlen:cells'.size=n*sz:=by
   have:=D.repL_len _ _ hL;rw [D.szL_all es (D.szs_spec hsz),hel] at this;rw [<- Array.length_toList];exact this
  have hfr:ob nm=none:=hne.2.2 nm (by simp);have hown:(w.alloc (.cells cells' e)).ownsRow 0 e sz (.slice (some ⟨w.heap.size,0,none⟩) n n) es.length cells'.toList:=by
   refine⟨by rw [Array.length_toList,hlen,hel],.inr ⟨w.heap.size,n,_,by rw [hel],Nat.zero_le _,heap_alloc_new w _,by omega,?_,hlen,?_⟩⟩
   ·have:n<=n*sz:=Nat.le_mul_of_pos_right _ h0;simp only [maxLen];omega
   ·rw [hel,List.take_of_length_le (by rw [Array.length_toList,hlen];omega)]
  have s2:=sm.newObj hB hfr hnm (o:=.row e sz es) (c:=.cells cells' e) λob' σ' m hσ =>
   ⟨h0,D.szs_spec hsz,_,_,hown,D.repL_ext m.ext _ _ hL,by rw [hσ];rfl,λhn=>by rw [hσ] at hn;cases hn⟩
  rw [F1 _ rfl];refine⟨.slice (some ⟨w.heap.size,0,none⟩) n n,w.alloc (.cells cells' e),G3 σ nm (some w.heap.size),Z,?_,s2,?_⟩
  ·have hmap:(parts.toArray.map λp=>(p.1,a.eval p.2)).toList=parts.map λp=>(p.1,a.eval p.2):=by simp
   have hpl:∀ (l:List (Nat×Value)),(∀ p∈l,p.1<n)->∀ (c:Array Value),Instr.fill (λi=>some (i*sz,sz)) c l=Instr.fill (λi=>((List.range n).map λi=>(i*sz,sz))[i]?) c l:=by
    intro l;induction l with
    | nil=>intro _ c;rfl
    | cons p l ih =>
     intro hp c;obtain⟨k,v⟩:=p;have hk:k<n:=hp (k,v) (by simp);have hk2:((List.range n).map λi=>(i*sz,sz))[k]? = some (k*sz,sz):=by simp [List.getElem?_map,List.getElem?_range hk]
     simp only [Instr.fill,hk2];split
     ·rfl
     ·exact ih (λp hp'=>hp p (by simp [hp'])) _
   have h1:(parts.map λp=>(p.1,a.eval p.2)).all (λp=>decide (p.1<n))=true:=by
    rw [List.all_eq_true];intro q hq;obtain⟨p,hp,rfl⟩:=List.mem_map.1 hq;simpa using hpn p hp
   have hfill:=hpl (parts.map λp=>(p.1,a.eval p.2)) (λp hp=>by simpa using List.all_eq_true.1 h1 p hp) ((List.replicate n z.enc).flatten.toArray);rw [k1] at hfill;have hzero:((Array.range (n*sz)).map λi=>z.enc.toArray[i % z.enc.toArray.size]!)=(List.replicate n z.enc).flatten.toArray:=by
    have:=I6 z.enc (by omega) n;rw [<- this,hzl,hzs];apply Array.toList_inj.1;simp
   by_cases hnz:n*sz=0
   ·have hn0:n=0:=by rcases Nat.mul_eq_zero.1 hnz with h | h<;>omega
    subst hn0;have hnil:parts=[]:=by
     cases parts with
     | nil=>rfl
     | cons p _=>have:=hpn p (by simp);omega
    subst hnil;have hc':cells' = #[]:=by simpa [Instr.fill] using k1.symm
    have hr0:(Array.map (λ_=>(default:Value)) (Array.range 0)) = #[]:=by apply Array.toList_inj.1;simp
    simp [execOp,Instr.buildSlice,run_underlying hu,ht.run_size,hc',Instr.fill,P7,hr0]
   ·simp only [execOp,Instr.buildSlice,Sem.run_bind,run_underlying hu,Result.andThen_ok,ht.run_size,Sem.run_pure,hmap];rw [if_neg (show ¬ n*sz > 2 ^ 24 from by omega),if_neg hnz];simp only [Sem.run_bind,hz.run,Result.andThen_ok,Sem.run_pure,hcells,hzero,hfill,P7]
  ·have:=J6 (ob:=B9 ob nm (some (.row e sz es))) (σ:=G3 σ nm (some w.heap.size)) (Z:=Z) (nm:=nm) (by rw [C1];simp) hown (by simp [G3,Value.ownBlock]);rw [hlen2];simpa [hel] using this
end
theorem Up {ob:Obs} {σ:Nat->Option Nat} {Z:Nat->Prop} {w:World} {n e sz b:Nat} {es:List D} (h:Ob.rep ob σ Z w n (.row e sz es)) (hb:σ n=some b):D.repE Z w sz es b 0:=by
 obtain⟨h0,h1,v,xs,⟨hl,h2⟩,h3,h4,h5⟩:=h;rcases h2 with ⟨rfl,_⟩ | ⟨g,cap,cur,rfl,_,hg,_,_,_,ht⟩
 ·rw [hb] at h4;cases h4
 ·have hgb:g=b:=by rw [hb] at h4;exact Option.some.inj h4
  subst hgb;refine D.repE_of_repL es g 0 xs h3 h1 λj v hj => ?_;rw [Nat.zero_add,cell_of_row _ g j cur e (0,0) hg];rw [<- ht] at hj;have:=(List.getElem?_eq_some_iff.1 hj).1;rw [List.getElem?_take_of_lt (by rw [List.length_take] at this;omega)] at hj;simpa using hj
section
variable {d:Nat} {x y i:Operand} {ty:TypeId} {pos:String} {af:Array Edge} {nt nt':List (Nat×V)}
theorem Src.row {sz e2 nm off len:Nat} {ys es:List D} (hk:off+len<=es.length) (hcut:ys=(es.drop off).take len) (hy:Opd y (.sref nm sz off len) nt):Src y nt [(nm,.row e2 sz es)] sz ys:=fun {B env ob a w σ Z} sm h hne=>by
 have hob:ob nm=some (some (.row e2 sz es)):=hne (nm,.row e2 sz es) (List.mem_singleton.2 rfl);obtain⟨ad,c,hyv,hc1,hc2,hyd0⟩:=O9 (hy B env ob a w σ Z sm h) ⟨_,hob⟩;have hrow:=sm.obj nm _ hob;have hyl:ys.length=len:=by rw [hcut,List.length_take,List.length_drop];omega
 refine⟨ad,c,by rw [hyl];exact hyv,?_⟩;rcases hyd0 with ⟨k1,_⟩ | ⟨b,e',k1,k2,_⟩
 ·have h0:es=[]:=by obtain⟨_,_,v,xs,_,_,_,h5⟩:=hrow;exact h5 k1
  exact .inl (by rw [hcut,h0];simp)
 ·rcases k2 with k2 | k2
  ·exact .inl (List.eq_nil_of_length_eq_zero (by omega))
  ·refine .inr ⟨b,off*sz,k2,λq hq=>hrow.2.1 q (by rw [hcut] at hq;exact List.mem_of_mem_drop (List.mem_of_mem_take hq)),?_⟩;have:=D.repE_drop _ b 0 off (Up hrow k1);rw [Nat.zero_add] at this;rw [hcut];exact D.repE_take _ b _ len this
end
end Go.Vc
namespace Go.Vc
open Go
variable {P:Program} {B:D5} {ops:Array Oper}
def DV (Z:Nat->Prop) (w:World) (x:D) (v:Value):Prop:=∃ cs,v=D3 x.isAgg cs∧D.rep Z w x cs
theorem DV.ext {Z Z':Nat->Prop} {w w':World} (hx:Ext Z Z' w w') {x:D} {v:Value} (h:DV Z w x v):DV Z' w' x v:=by
 obtain⟨cs,h1,h2⟩:=h;exact⟨cs,h1,D.rep_ext hx x cs h2⟩
theorem DV.to {ob:Obs} {σ:Nat->Option Nat} {Z:Nat->Prop} {w:World} {x:D} {v:Value} (h:DV Z w x v):D0 ob σ Z w v (.d x):=by
 obtain⟨cs,rfl,h2⟩:=h;exact D0.of (F3.of_cells (x:=.d x) h2 (D.rep_len x cs h2) (D.rep_one x cs h2) x.isAgg rfl) rfl
def Aa (Z:Nat->Prop) (w:World):List (D×D)->List MapEntry->Prop
 | [],[]=>True
 | p :: ps,e :: es=>(DV Z w p.1 e.key∧DV Z w p.2 e.val)∧Aa Z w ps es
 | _,_=>False
theorem Aa.ext {Z Z':Nat->Prop} {w w':World} (hx:Ext Z Z' w w'):∀ {ps:List (D×D)} {es:List MapEntry},Aa Z w ps es->Aa Z' w' ps es
 | [],[],_=>trivial
 | _ :: _,_ :: _,h=>⟨⟨h.1.1.ext hx,h.1.2.ext hx⟩,h.2.ext hx⟩
 | [],_ :: _,h=>h.elim
 | _ :: _,[],h=>h.elim
theorem Aa.len {Z:Nat->Prop} {w:World}:∀ {ps:List (D×D)} {es:List MapEntry},Aa Z w ps es->es.length=ps.length
 | [],[],_=>rfl
 | _ :: _,_ :: _,h=>by simp [h.2.len]
 | [],_ :: _,h=>h.elim
 | _ :: _,[],h=>h.elim
theorem Aa.snoc {Z:Nat->Prop} {w:World} {p:D×D} {e:MapEntry} (hk:DV Z w p.1 e.key) (hv:DV Z w p.2 e.val):∀ {ps:List (D×D)} {es:List MapEntry},Aa Z w ps es->Aa Z w (ps++[p]) (es++[e])
 | [],[],_=>⟨⟨hk,hv⟩,trivial⟩
 | _ :: _,_ :: _,h=>⟨h.1,h.2.snoc hk hv⟩
 | [],_ :: _,h=>h.elim
 | _ :: _,[],h=>h.elim
structure Ch (es:List MapEntry) (clock:Nat):Prop where
 apart:(es.map (·.born)).Nodup
 below:∀ e∈es,e.born<clock
def Dm (ps:List (D×D)):Blk where
 holds Z w b:=∃ (ents:Array MapEntry) (clock:Nat),w.heap[b]? = some (.map ents clock)∧Aa Z w ps ents.toList∧Ch ents.toList clock
 move hx hb h:=by
  obtain⟨ents,clock,h1,h2,h3⟩:=h;exact⟨ents,clock,hb.trans h1,h2.ext hx,h3⟩
 lt h:=by
  obtain⟨ents,clock,h1,_⟩:=h;exact(Array.getElem?_eq_some_iff.1 h1).1
structure V1 (P:Program) (kt:TypeId) {α:Type} (f:α->D) (eq:α->α->Bool):Prop where
 run:∀ {Z Z':Nat->Prop} {w w1 w2:World} {a b:α} {va vb:Value},DV Z w1 (f a) va->DV Z' w2 (f b) vb->(Op.equal kt va vb).run P w = .ok (eq a b) w
 now:∀ {kd:TypeDesc},P.underlying kt=some kd->∀ {Z Z':Nat->Prop} {w1 w2:World} {a b:α} {va vb:Value},DV Z w1 (f a) va->DV Z' w2 (f b) vb->Instr.sameNow kd va vb=some (eq a b)∨Instr.sameNow kd va vb=none
 chk:∀ {Z:Nat->Prop} {w w1:World} {a:α} {va:Value} (em:Bool),DV Z w1 (f a) va->(Instr.checkKey em 10000 kt va).run P w = .ok () w
 stay:∀ {Z Z':Nat->Prop} {w w1 w2:World} {a:α} {v1 v2:Value},DV Z w1 (f a) v1->DV Z' w2 (f a) v2->(Instr.keyThatStays v1 v2).run P w = .ok v2 w
 iff:∀ a b,eq a b=true↔f a=f b
theorem V1.same {kt:TypeId} {α:Type} {f:α->D} {eq:α->α->Bool} (h:V1 P kt f eq):∀ a b,eq a b=true->f a=f b:=λa b=>(h.iff a b).1
theorem A3x {kt:TypeId} {α:Type} {f:α->D} {eq:α->α->Bool} (hk:V1 P kt f eq) {Z Z':Nat->Prop} {w w1 w2:World} {a b:α} {va vb:Value} (ha:DV Z w1 (f a) va) (hb:DV Z' w2 (f b) vb):(Op.equal kt va vb).run P w = .ok (eq a b) w:=by
 exact hk.run ha hb
def mix {α β:Type} (eq:α->α->Bool) (k:α):List (α×β)->Option (Nat×β)
 | []=>none
 | p :: l=>if eq k p.1=true then some (0,p.2) else (mix eq k l).map λq=>(q.1+1,q.2)
def mget {α β:Type} (eq:α->α->Bool) (l:List (α×β)) (k:α):Option β:=(mix eq k l).map (·.2)
def mput {α β:Type} (eq:α->α->Bool):List (α×β)->α->β->List (α×β)
 | [],k,v=>[(k,v)]
 | p :: l,k,v=>if eq k p.1=true then (p.1,v) :: l else p :: mput eq l k v
def D4 {α β:Type} (f:α->D) (g:β->D) (l:List (α×β)):List (D×D):=l.map λp=>(f p.1,g p.2)
theorem A1r {kt:TypeId} {α β:Type} {f:α->D} {g:β->D} {eq:α->α->Bool} (hk:V1 P kt f eq) {Z Z':Nat->Prop} {w w1 w2:World} {k:α} {kv:Value} (hkv:DV Z' w2 (f k) kv) :
  ∀ {l:List (α×β)} {es:List MapEntry} {i:Nat},Aa Z w1 (D4 f g l) es->∃ r,(Instr.findAsking kt kv es i).run P w = .ok r w ∧
   match mix eq k l with
   | none=>r=none
   | some (j,b)=>∃ v,r=some (i+j,v)∧DV Z w1 (g b) v
 | [],[],i,_=>⟨none,by simp [Instr.findAsking],rfl⟩
 | p :: l,e :: es,i,h=>by
  obtain⟨⟨h1,h2⟩,h3⟩:=h;have he:=A3x hk (w:=w) hkv h1;obtain⟨r,hr,hm⟩:=A1r hk (w:=w) hkv (i:=i+1) h3;unfold mix;cases hc:eq k p.1 with
  | true =>
   rw [hc] at he;refine⟨some (i,e.val),by simp [Instr.findAsking,he,Result.andThen],?_⟩;rw [if_pos rfl];exact⟨e.val,rfl,h2⟩
  | false =>
   rw [hc] at he;refine⟨r,by simp [Instr.findAsking,he,Result.andThen,hr],?_⟩;rw [if_neg (by simp)];cases hq:mix eq k l with
   | none=>rw [hq] at hm;exact hm
   | some q =>
    rw [hq] at hm;obtain⟨v,h4,h5⟩:=hm;exact⟨v,by rw [h4];simp;omega,h5⟩
 | [],_ :: _,_,h=>h.elim
 | _ :: _,[],_,h=>h.elim
theorem Uq {kt:TypeId} {kd:TypeDesc} (hu:P.underlying kt=some kd) {α β:Type} {f:α->D} {g:β->D} {eq:α->α->Bool} (hk:V1 P kt f eq) {Z Z':Nat->Prop} {w1 w2:World} {k:α} {kv:Value} (hkv:DV Z' w2 (f k) kv) :
  ∀ {l:List (α×β)} {es:List MapEntry} {i:Nat} {r:Option (Nat×Value)},Aa Z w1 (D4 f g l) es->Instr.findNow kd kv es i=some r ->
   match mix eq k l with
   | none=>r=none
   | some (j,b)=>∃ v,r=some (i+j,v)∧DV Z w1 (g b) v
 | [],[],i,r,_,hr=>by
  simp only [Instr.findNow,Option.some.injEq] at hr;exact hr.symm
 | p :: l,e :: es,i,r,h,hr=>by
  obtain⟨⟨h1,h2⟩,h3⟩:=h;have h1:DV Z w1 (f p.1) e.key:=h1;have hs:=hk.now hu hkv h1;obtain⟨c1,rfl,r1⟩:=hkv;unfold mix;rcases hs with hs | hs
  ·cases hc:eq k p.1 with
   | true =>
    rw [hc] at hs;simp only [Instr.findNow,hs,Option.some.injEq] at hr;rw [if_pos rfl];exact⟨e.val,hr.symm,h2⟩
   | false =>
    rw [hc] at hs;simp only [Instr.findNow,hs] at hr;have ih:=Uq hu hk (Z':=Z') (w2:=w2) ⟨c1,rfl,r1⟩ (i:=i+1) h3 hr;rw [if_neg (by simp)];cases hq:mix eq k l with
    | none=>rw [hq] at ih;exact ih
    | some q =>
     rw [hq] at ih;obtain⟨v,h4,h5⟩:=ih;exact⟨v,by rw [h4];simp;omega,h5⟩
  ·simp [Instr.findNow,hs] at hr
 | [],_ :: _,_,_,h,_=>h.elim
 | _ :: _,[],_,_,h,_=>h.elim
theorem Ll {kt:TypeId} {kd:TypeDesc} (hu:P.underlying kt=some kd) {α β:Type} {f:α->D} {g:β->D} {eq:α->α->Bool} (hk:V1 P kt f eq) {Z Z':Nat->Prop} {w w1 w2:World} {k:α} {kv:Value} (hkv:DV Z' w2 (f k) kv)
  {l:List (α×β)} {es:List MapEntry} (h:Aa Z w1 (D4 f g l) es):∃ r,(Instr.findKey kt kv es).run P w = .ok r w ∧
   match mix eq k l with
   | none=>r=none
   | some (j,b)=>∃ v,r=some (j,v)∧DV Z w1 (g b) v:=by
 unfold Instr.findKey;simp only [Sem.run_bind,run_underlying hu,Result.andThen_ok];cases hn:Instr.findNow kd kv es 0 with
 | some r =>
  refine⟨r,by simp,?_⟩;have:=Uq hu hk hkv h hn;simpa only [Nat.zero_add] using this
 | none =>
  obtain⟨r,h1,h2⟩:=A1r hk (w:=w) hkv (i:=0) h;refine⟨r,by simpa using h1,?_⟩;simpa only [Nat.zero_add] using h2
mutual
theorem R3.check {Z:Nat->Prop} {w w1:World} (em:Bool):∀ {h:Nat} {t:TypeId} {x y:D} {b:Bool},R3 P h t x y b->∀ {d:Nat},h<=d->∀ {cs:List Value},D.rep Z w1 x cs->(Instr.checkKey em d t (D3 x.isAgg cs)).run P w = .ok () w
 | _,_,_,_,_,.bool a b hu,d,hd,cs,hx=>by
  obtain⟨d,rfl⟩:∃ e,d=e+1:=⟨d-1,by omega⟩;cases hx;simp [Instr.checkKey,D3,D.isAgg,run_underlying hu]
 | _,_,_,_,_,.int a b hu,d,hd,cs,hx=>by
  obtain⟨d,rfl⟩:∃ e,d=e+1:=⟨d-1,by omega⟩;cases hx;simp [Instr.checkKey,D3,D.isAgg,run_underlying hu]
 | _,_,_,_,_,.str a b hu,d,hd,cs,hx=>by
  obtain⟨d,rfl⟩:∃ e,d=e+1:=⟨d-1,by omega⟩;cases hx;simp [Instr.checkKey,D3,D.isAgg,run_underlying hu]
 | _,_,_,_,_,.st (t:=t) (fs:=fs) hu hl hs hf,d,hd,cs,hx=>by
  obtain⟨d,rfl⟩:∃ e,d=e+1:=⟨d-1,by omega⟩;have:=FitF.check (w:=w) em hf (d:=d) (by omega) (px:=[]) rfl hx;simp only [D3,D.isAgg,if_true];unfold Instr.checkKey;simp only [Sem.run_bind,run_underlying hu,Result.andThen_ok];rw [<- Array.forIn_toList,hl];simp at this;simp [this]
theorem FitF.check {Z:Nat->Prop} {w w1:World} (em:Bool):∀ {h o:Nat} {fs:List Field} {xs ys:List D} {b:Bool},FitF P h o fs xs ys b->∀ {d:Nat},h<=d->∀ {px cs:List Value},px.length=o->D.repL Z w1 xs cs ->
  ((forIn fs PUnit.unit λf (_:PUnit)=>if f.name ≠ "_" then (do Instr.checkKey em d f.type (<- part f.type (px++cs).toArray f.offset);pure (ForInStep.yield PUnit.unit)) else pure (ForInStep.yield PUnit.unit):Sem PUnit)).run P w = .ok () w
 | _,_,_,_,_,_,.nil,d,_,px,cs,_,_=>by simp
 | _,_,_,_,_,_,.cons (f:=f) (x:=x) (y:=y) (b:=b) hn ho ht hx hy he hf,d,hd,px,cs,hpx,hrx=>by
  obtain⟨c1,c2,rfl,h1,h2⟩:=hrx;have l1:=D.rep_len _ _ h1;obtain⟨hxs,hxa⟩:=hx;have s1:∀ {ag:Bool},x.isAgg=ag->ag=false->x.sz=1:=λh e=>D.sz_one (h.trans e);have p1:=I0 ht w px c1 c2 (l1.trans hxs) (λe=>by rw [<- hxs];exact s1 hxa e) (hpx.trans ho.symm);have pe:=R3.check (w:=w) em he (d:=d) hd h1;rw [hxa] at pe;have ih:=FitF.check (w:=w) em hf (d:=d) hd (px:=px++c1) (by simp;omega) h2;rw [List.append_assoc] at p1;simp only [List.append_assoc] at ih;rw [List.forIn_cons];simp only [hn,ne_eq,not_false_eq_true,if_true,Sem.run_bind,p1,pe,Result.andThen_ok,Sem.run_pure];simpa using ih
end
end Go.Vc
namespace Go.Vc
open Go
variable {P:Program} {B:D5} {ops:Array Oper}
variable {b n:Nat} {σ:Nat->Option Nat} {Z:Nat->Prop} {ob:Obs} {w:World}
def setBlk (w:World) (b:Nat) (o:Obj):World:={ w with heap:=w.heap.setIfInBounds b o }
theorem Sim.setBlkF {env:Env} {a:Act} (s:Sim B env ob a w σ Z) {o o':Ob} {c:Obj} (hn:ob n=some (some o)) (hb:σ n=some b) (hlt:b<w.heap.size) (hsh:(Vc.setBlk w b c).shape? b=w.shape? b) (ho:∀ ob',K4 ob ob' σ σ Z Z w (Vc.setBlk w b c)->o'.rep ob' σ Z (Vc.setBlk w b c) n) (hF:Ag B.w0.heap.size B.own (B9 ob n (some o')) σ Z (Vc.setBlk w b c)) :
  Sim B env (B9 ob n (some o')) a (Vc.setBlk w b c) σ Z:=by
 have hl:live ob n:=⟨o,hn⟩;have hold:∀ k,k≠b->(Vc.setBlk w b c).heap[k]? = w.heap[k]? :=λk hk=>by
  unfold Vc.setBlk;simp [Ne.symm hk]
 have hsize:(Vc.setBlk w b c).heap.size=w.heap.size:=by unfold Vc.setBlk;simp
 have m:K4 ob (B9 ob n (some o')) σ σ Z Z w (Vc.setBlk w b c):=by
  refine⟨⟨λ_ h=>h,λk h=>hold k (λhk=>(s.blk n b hl hb).1 (hk ▸ h))⟩,λm h=>S4 h,λm hu hm=>⟨?_,rfl⟩,λm k hu hm hk => ?_⟩
  ·rw [C1] at hm
   by_cases h:m=n
   ·rw [h];exact hl
   ·rwa [if_neg h] at hm
  ·by_cases h:k=b
   ·subst h;exact hsh
   ·simp only [World.shape?,hold k h]
 refine { s with env:=?_,obj:=?_,inj:=?_,blk:=?_,zlt:=?_,pin:=?_,shp:=?_,size:=?_,block:=?_,os:=s.os,tape:=s.tape,output:=s.output,foot:=hF }
 ·intro k x hk;obtain⟨v,h1,h2⟩:=s.env k x hk;exact⟨v,h1,h2.move m⟩
 ·intro q o'' hq
  by_cases h:q=n
  ·subst h;simp only [B9,if_true,Option.some.injEq] at hq;subst hq;exact ho _ m
  ·simp only [B9,if_neg h] at hq;exact Ob.rep_move m (s.obj q o'' hq) rfl (λk hk=>hold k (λe=>h (s.inj q n b ⟨_,hq⟩ hl (e ▸ hk) hb)))
 ·intro p q k hp hq;rw [C1] at hp hq;refine s.inj p q k ?_ ?_
  ·by_cases h:p=n
   ·rw [h];exact hl
   ·rwa [if_neg h] at hp
  ·by_cases h:q=n
   ·rw [h];exact hl
   ·rwa [if_neg h] at hq
 ·intro p k hp;rw [C1] at hp;refine s.blk p k ?_
  by_cases h:p=n
  ·rw [h];exact hl
  ·rwa [if_neg h] at hp
 ·intro k hz;have:=s.zlt k hz;rw [hsize];exact this
 ·intro p k hpin hp;rw [C1] at hp;refine s.pin p k hpin ?_
  by_cases h:p=n
  ·rw [h];exact hl
  ·rwa [if_neg h] at hp
 ·intro p k hpin hp;rw [C1] at hp;have hlp:live ob p:=by
   by_cases h:p=n
   ·rw [h];exact hl
   ·rwa [if_neg h] at hp
  rw [<- s.shp p k hpin hlp]
  by_cases h:k=b
  ·subst h;exact hsh
  ·simp only [World.shape?,hold k h]
 ·rw [hsize];exact s.size
 ·intro k hk hk';have hne:k≠b:=λe=>by
   subst e;rcases(s.blk n k hl hb).2 with h | h
   ·omega
   ·exact hk' h
  rw [hold k hne];exact s.block k hk hk'
theorem Sim.setBlk {env:Env} {ob:Obs} {a:Act} {w:World} {σ:Nat->Option Nat} {Z:Nat->Prop} (s:Sim B env ob a w σ Z) {n b:Nat} {o o':Ob} {c:Obj} (hn:ob n=some (some o)) (hb:σ n=some b) (hlt:b<w.heap.size) (hsh:(Vc.setBlk w b c).shape? b=w.shape? b)
  (ho:∀ ob',K4 ob ob' σ σ Z Z w (Vc.setBlk w b c)->o'.rep ob' σ Z (Vc.setBlk w b c) n) (hr:∀ r,o' ≠ .reg r:=by intro r h;cases h) :
  Sim B env (B9 ob n (some o')) a (Vc.setBlk w b c) σ Z:=by
 have hl:live ob n:=⟨o,hn⟩;refine s.setBlkF hn hb hlt hsh ho (s.footSet hl hb (λk hk => ?_) ?_ hr)
 ·unfold Vc.setBlk;simp [Ne.symm hk]
 ·unfold Vc.setBlk;simp
theorem Ga {v:Value} (h:D0 ob σ Z w v (.mref n)) (hl:live ob n):∃ b,σ n=some b∧v = .map (some b):=by
 obtain⟨b,hb,hv⟩:=(And.left h).2 hl;exact⟨b,hb,by simpa using hv⟩
theorem B1y (hl:live ob n) (hb:σ n=some b):D0 ob σ Z w (.map (some b)) (.mref n) :=
 ⟨⟨hl.used,λ_=>⟨b,hb,rfl⟩⟩,.inr rfl⟩
section
variable {d:Nat} {x y i:Operand} {ty:TypeId} {pos:String} {af:Array Edge} {nt nt' nt'':List (Nat×V)}
theorem OpJ.mkmap {t:TypeId} (hB:B.ok) {nm:Nat} (hnm:1000<=nm) (hN:d<B.N) :
  OpJ P B ops ⟨some d,.makeMap t none,ty,pos,af,none⟩ { nf:=[nm],wt:=[(d,.mref nm)],wo:=[(nm,some (.blk (Dm [])))] } :=
 OpJ.run rfl rfl hN rfl λenv ob a w σ Z sm hne=>by
  have hn:ob nm=none:=hne.2.2 nm (by simp);have s':=sm.newObj hB hn hnm (o:=.blk (Dm [])) (c:=.map #[] 0) λob' σ' m hs=>⟨w.heap.size,hs,#[],0,heap_alloc_new w _,trivial,⟨by simp,by simp⟩⟩;refine⟨.map (some w.heap.size),_,_,_,?_,by rw [F1 _ rfl];exact s',by rw [F1 _ rfl];exact B1y (by rw [C1];simp) (by simp [G3])⟩;have hr:(Instr.makeMap t none).run P w = .ok (.map (some w.heap.size)) (w.alloc (.map #[] 0)):=rfl;simp [execOp,hr]
section
variable {α β:Type} {f:α->D} {g:β->D} {eq:α->α->Bool} {kt et t:TypeId} {kd:TypeDesc} {nm:Nat} {l:List (α×β)} {k:α}
variable {z:β}
theorem A6i {env:Env} {a:Act} (hu:P.underlying t=some (.map kt et)) (hk:P.underlying kt=some kd) (he:V1 P kt f eq) (hz:TyZ P et (.d (g z))) (sm:Sim B env ob a w σ Z) (hob:ob nm=some (some (.blk (Dm (D4 f g l))))) {kv mv:Value} (hm:D0 ob σ Z w mv (.mref nm)) (hkv:D0 ob σ Z w kv (.d (f k))) (ok:Bool) :
  ∃ v,DV Z w (g ((mget eq l k).getD z)) v∧(Instr.lookup t mv kv ok).run P w = .ok (if ok then .tuple #[v,.bool (mget eq l k).isSome] else v) w:=by
 obtain⟨b,hb,rfl⟩:=Ga hm ⟨_,hob⟩;obtain⟨b',hb',ents,clock,hw,hl,hst⟩:=sm.obj nm _ hob;have:b'=b:=Option.some.inj (hb'.symm.trans hb);subst this;obtain⟨cs,rfl,hr⟩:=P2 hkv;have hc:=he.chk (w:=w) ents.isEmpty ⟨_,rfl,hr⟩;obtain⟨r,h1,h2⟩:=Ll (w:=w) hk he ⟨cs,rfl,hr⟩ hl;have hg:(getObj b').run P w = .ok (.map ents clock) w:=by simp [getObj,Sem.run,hw]
 have hzr:=hz.run w;unfold mget;cases hq:mix eq k l with
 | none =>
  rw [hq] at h2;subst h2;refine⟨D3 (V.d (g z)).isAgg (V.d (g z)).enc,⟨_,rfl,?_⟩,?_⟩
  ·exact(V.rep_enc (ob:=ob) (σ:=σ) (Z:=Z) (w:=w) (.d (g z)) hz.plain).1
  ·cases ok<;>simp [Instr.lookup,run_underlying hu,hg,hc,h1,hzr]
 | some q =>
  rw [hq] at h2;obtain⟨v,rfl,h3⟩:=h2;refine⟨v,h3,?_⟩;cases ok<;>simp [Instr.lookup,run_underlying hu,hg,hc,h1]
theorem OpJ.mlook (hu:P.underlying t=some (.map kt et)) (hk:P.underlying kt=some kd) (he:V1 P kt f eq) (hz:TyZ P et (.d (g z))) (hN:d<B.N) (hx:Opd x (.mref nm) nt) (hi:Opd i (.d (f k)) nt') :
  OpJ P B ops ⟨some d,.lookup t x i false,ty,pos,af,none⟩ { nt:=nt++nt',no:=[(nm,.blk (Dm (D4 f g l)))],wt:=[(d,.d (g ((mget eq l k).getD z)))] } :=
 OpJ.run rfl rfl hN rfl λenv ob a w σ Z sm hne=>by
  obtain⟨h1,h2⟩:=B4 hne.1;have hob:=hne.2.1 (nm,.blk (Dm (D4 f g l))) (by simp);obtain⟨v,hv,hr⟩:=A6i hu hk he hz sm hob (hx B env ob a w σ Z sm h1) (hi B env ob a w σ Z sm h2) false;refine⟨_,w,σ,Z,by simp only [execOp,Sem.run_bind,hr,Result.andThen_ok,Sem.run_pure];rfl,by rw [C9 _ rfl];exact sm,?_⟩;rw [C9 _ rfl];exact DV.to hv
theorem Lm {Z:Nat->Prop} {w:World} {v:β} {kv vv:Value} (hv:DV Z w (g v) vv) (hkv:DV Z w (f k) kv) (hsame:∀ a b,eq a b=true->f a=f b):∀ {l:List (α×β)} {es:List MapEntry} {j:Nat} {b:β},Aa Z w (D4 f g l) es->mix eq k l=some (j,b) ->
  Aa Z w (D4 f g (mput eq l k v)) (es.modify j λe => { e with key:=kv,val:=vv })
 | [],es,j,b,_,h=>by simp [mix] at h
 | p :: l,e :: es,j,b,hl,h=>by
  obtain⟨⟨h1,h2⟩,h3⟩:=hl;unfold mix at h;unfold mput
  by_cases hc:eq k p.1=true
  ·rw [if_pos hc] at h ⊢;simp only [Option.some.injEq,Prod.mk.injEq] at h;rw [<- h.1,List.modify_zero_cons];have hkk:DV Z w (f p.1) kv:=by rw [<- hsame _ _ hc];exact hkv
   exact⟨⟨hkk,hv⟩,h3⟩
  ·rw [if_neg hc] at h ⊢;cases hq:mix eq k l with
   | none=>rw [hq] at h;simp at h
   | some q =>
    rw [hq] at h;simp only [Option.map_some,Option.some.injEq,Prod.mk.injEq] at h;rw [<- h.1,List.modify_succ_cons];exact⟨⟨h1,h2⟩,Lm hv hkv hsame h3 hq⟩
 | p :: l,[],_,_,h,_=>h.elim
theorem Ur {Z:Nat->Prop} {w:World} {v:β} {kv vv:Value} (hv:DV Z w (g v) vv) (hkv:DV Z w (f k) kv) {clock:Nat}:∀ {l:List (α×β)} {es:List MapEntry},Aa Z w (D4 f g l) es->mix eq k l=none ->
  Aa Z w (D4 f g (mput eq l k v)) (es++[{ key:=kv,val:=vv,born:=clock }])
 | [],[],_,_=>⟨⟨hkv,hv⟩,trivial⟩
 | p :: l,e :: es,hl,h=>by
  obtain⟨⟨h1,h2⟩,h3⟩:=hl;unfold mix at h;unfold mput
  by_cases hc:eq k p.1=true
  ·rw [if_pos hc] at h;cases h
  ·rw [if_neg hc] at h ⊢;refine⟨⟨h1,h2⟩,Ur hv hkv h3 ?_⟩;cases hq:mix eq k l with
   | none=>rfl
   | some q=>rw [hq] at h;simp at h
 | [],_ :: _,h,_=>h.elim
 | _ :: _,[],h,_=>h.elim
def X7:Value->Bool
 | .bool _ | .int .. | .string _=>true
 | _=>false
mutual
theorem R3.only {Z Z':Nat->Prop} {w w':World}:∀ {h:Nat} {t:TypeId} {x y:D} {b:Bool},R3 P h t x y b->∀ {c1 c2:List Value},D.rep Z w x c1->D.rep Z' w' x c2->c1=c2∧∀ v∈c1,X7 v=true
 | _,_,_,_,_,.bool a b hu,c1,c2,h1,h2=>by cases h1;cases h2;simp [X7]
 | _,_,_,_,_,.int a b hu,c1,c2,h1,h2=>by cases h1;cases h2;simp [X7]
 | _,_,_,_,_,.str a b hu,c1,c2,h1,h2=>by cases h1;cases h2;simp [X7]
 | _,_,_,_,_,.st hu hl hs hf,c1,c2,h1,h2=>FitF.only hf h1 h2
theorem FitF.only {Z Z':Nat->Prop} {w w':World}:∀ {h o:Nat} {fs:List Field} {xs ys:List D} {b:Bool},FitF P h o fs xs ys b->∀ {c1 c2:List Value},D.repL Z w xs c1->D.repL Z' w' xs c2->c1=c2∧∀ v∈c1,X7 v=true
 | _,_,_,_,_,_,.nil,c1,c2,h1,h2=>by cases h1;cases h2;simp
 | _,_,_,_,_,_,.cons hn ho ht hx hy he hf,c1,c2,h1,h2=>by
  obtain⟨a1,a2,rfl,g1,g2⟩:=h1;obtain⟨b1,b2,rfl,k1,k2⟩:=h2;obtain⟨e1,p1⟩:=R3.only he g1 k1;obtain⟨e2,p2⟩:=FitF.only hf g2 k2;subst e1;subst e2;refine⟨rfl,λv hv => ?_⟩;rcases List.mem_append.1 hv with hv | hv
  ·exact p1 v hv
  ·exact p2 v hv
end
theorem Cx {v:Value} (h:X7 v=true) (n:Nat):Instr.sameBits n v v=true:=by
 cases v with
 | string s=>unfold Instr.sameBits;show(s.data==s.data)=true;simp
 | _=>simp_all [X7,Instr.sameBits]
theorem Us {α:Type} (p:α×α->Bool):∀ {l:List α},(∀ x∈l,p (x,x)=true)->(l.zip l).all p=true
 | [],_=>rfl
 | x :: l,h=>by simp [List.zip_cons_cons,h x (List.mem_cons_self ..),Us p (l:=l) λy hy=>h y (List.mem_cons_of_mem _ hy)]
theorem Rp {Z:Nat->Prop} {w:World} (hsame:∀ a b,eq a b=true->f a=f b):∀ {l:List (α×β)} {es:List MapEntry} {j:Nat} {b:β},Aa Z w (D4 f g l) es->mix eq k l=some (j,b)->∃ e,es[j]? = some e∧DV Z w (f k) e.key
 | [],es,j,b,_,h=>by simp [mix] at h
 | p :: l,e :: es,j,b,hl,h=>by
  obtain⟨⟨h1,h2⟩,h3⟩:=hl;unfold mix at h
  by_cases hc:eq k p.1=true
  ·rw [if_pos hc] at h;simp only [Option.some.injEq,Prod.mk.injEq] at h;rw [<- h.1];exact⟨e,rfl,by rw [hsame _ _ hc];exact h1⟩
  ·rw [if_neg hc] at h;cases hq:mix eq k l with
   | none=>rw [hq] at h;simp at h
   | some q =>
    rw [hq] at h;simp only [Option.map_some,Option.some.injEq,Prod.mk.injEq] at h;obtain⟨e',h4,h5⟩:=Rp hsame h3 hq;rw [<- h.1];exact⟨e',by simpa using h4,h5⟩
 | p :: l,[],_,_,h,_=>h.elim
theorem Cy (kv vv:Value):∀ (es:List MapEntry) (j:Nat),(es.modify j λe => { e with key:=kv,val:=vv }).map (·.born)=es.map (·.born)
 | [],j=>by simp
 | e :: es,0=>by simp
 | e :: es,j+1=>by simp [List.modify_succ_cons,Cy kv vv es j]
theorem Ch.modify {es:List MapEntry} {clock:Nat} (h:Ch es clock) (kv vv:Value) (j:Nat):Ch (es.modify j λe => { e with key:=kv,val:=vv }) clock:=by
 have hb:=Cy kv vv es j;refine⟨by rw [hb];exact h.apart,λe he => ?_⟩;have:e.born∈es.map (·.born):=by rw [<- hb];exact List.mem_map_of_mem (f:=λe:MapEntry=>e.born) he
 obtain⟨e',he',h2⟩:=List.mem_map.1 this;rw [<- h2];exact h.below e' he'
theorem Ch.push {es:List MapEntry} {clock:Nat} (h:Ch es clock) (kv vv:Value):Ch (es++[{ key:=kv,val:=vv,born:=clock }]) (clock+1):=by
 refine⟨?_,λe he => ?_⟩
 ·rw [List.map_append,List.nodup_append];refine⟨h.apart,by simp,λa ha b hb e => ?_⟩;obtain⟨e',he',h2⟩:=List.mem_map.1 ha;simp only [List.map_cons,List.map_nil,List.mem_singleton] at hb;have:=h.below e' he';omega
 ·rcases List.mem_append.1 he with he | he
  ·have:=h.below e he;omega
  ·rw [List.mem_singleton.1 he];exact Nat.lt_succ_self _
theorem OpJ.mput (hu:P.underlying t=some (.map kt et)) (hk:P.underlying kt=some kd) (he:V1 P kt f eq) {v:β} (hx:Opd x (.mref nm) nt) (hi:Opd i (.d (f k)) nt') (hy:Opd y (.d (g v)) nt'') :
  OpJ P B ops ⟨none,.mapUpdate t x i y,ty,pos,af,none⟩ { nt:=nt++(nt'++nt''),no:=[(nm,.blk (Dm (D4 f g l)))],wo:=[(nm,some (.blk (Dm (D4 f g (Vc.mput eq l k v)))))] } :=
 OpJ.run0 rfl rfl rfl λenv ob a w σ Z sm hne=>by
  obtain⟨h1,h2⟩:=B4 hne.1;obtain⟨h2,h3⟩:=B4 h2;have hob:=hne.2.1 (nm,.blk (Dm (D4 f g l))) (by simp);obtain⟨b,hb,hv⟩:=Ga (hx B env ob a w σ Z sm h1) ⟨_,hob⟩;obtain⟨b',hb',ents,clock,hw,hl,hst⟩:=sm.obj nm _ hob;have:b'=b:=Option.some.inj (hb'.symm.trans hb);subst this;have hkv:=P2 (hi B env ob a w σ Z sm h2);have hyv:=P2 (hy B env ob a w σ Z sm h3);have hkd:DV Z w (f k) (a.eval i):=hkv;have hyd:DV Z w (g v) (a.eval y):=hyv;obtain⟨cs,hcs,hr⟩:=hkv;have hc:=he.chk (w:=w) false ⟨_,rfl,hr⟩;rw [<- hcs] at hc;obtain⟨r,g1,g2⟩:=Ll (w:=w) hk he hkd hl;have hg:(getObj b').run P w = .ok (.map ents clock) w:=by simp [getObj,Sem.run,hw]
  have hset:∀ o,(setObj b' o).run P w = .ok () (Vc.setBlk w b' o):=λo=>by simp [setObj,Sem.run,hw,Vc.setBlk]
  have hlt:b'<w.heap.size:=(Array.getElem?_eq_some_iff.1 hw).1;have hself:∀ o,(Vc.setBlk w b' o).heap[b']? = some o:=λo=>by unfold Vc.setBlk;simp [hlt]
  cases hq:mix eq k l with
  | none =>
   rw [hq] at g2;subst g2;refine⟨Vc.setBlk w b' (.map (ents.push { key:=a.eval i,val:=a.eval y,born:=clock }) (clock+1)),σ,Z,.inl ?_,?_⟩
   ·simp [execOp,hv,Instr.mapUpdate,run_underlying hu,hg,hc,g1,hset]
   ·rw [F1 _ rfl];refine sm.setBlk hob hb hlt (by simp [World.shape?,hself,hw]) λob' m=>⟨b',hb,_,_,hself _,?_,?_⟩
    ·rw [Array.toList_push];exact Ur (hyd.ext m.ext) (hkd.ext m.ext) (hl.ext m.ext) hq
    ·rw [Array.toList_push];exact hst.push _ _
  | some q =>
   obtain⟨j,bb⟩:=q;rw [hq] at g2;obtain⟨vv,rfl,_⟩:=g2;obtain⟨e,he1,he2⟩:=Rp he.same hl hq;have hj:ents[j]? = some e:=by simpa using he1
   have hs:=he.stay (w:=w) he2 hkd;refine⟨Vc.setBlk w b' (.map (ents.modify j λe => { e with key:=a.eval i,val:=a.eval y }) clock),σ,Z,.inl ?_,?_⟩
   ·simp [execOp,hv,Instr.mapUpdate,run_underlying hu,hg,hc,g1,hset,hj,hs]
   ·rw [F1 _ rfl];refine sm.setBlk hob hb hlt (by simp [World.shape?,hself,hw]) λob' m=>⟨b',hb,_,_,hself _,?_,?_⟩
    ·rw [Array.toList_modify];exact Lm (hyd.ext m.ext) (hkd.ext m.ext) he.same (hl.ext m.ext) hq
    ·rw [Array.toList_modify];exact hst.modify _ _ _
end
end
end Go.Vc
namespace Go.Vc
open Go
variable {P:Program} {B:D5} {ops:Array Oper}
def L2 (g:Nat) (x:D):Ou where
 holds Z w:=Z g∧∃ cs,G6 w g 0 cs∧D.rep Z w x cs∧∃ arr t p,w.heap[g]? = some (.cells arr t p)∧arr.size=cs.length
 move hx h:=by
  obtain⟨h1,cs,h2,h3,h4⟩:=h;exact⟨hx.sub g h1,cs,h2.of_block (hx.same g h1),D.rep_ext hx x cs h3,by rw [hx.same g h1];exact h4⟩
section
variable {d:Nat} {ty:TypeId} {pos:String} {af:Array Edge} {x i:Operand} {nt nt':List (Nat×V)}
theorem OpJ.loadGD {t:TypeId} {n g nm:Nat} {ag:Bool} (y:D) (ht:TyS P t n ag) (hn:y.sz=n) (ha:y.isAgg=ag) (h1:ag=false->n=1) (hN:d<B.N) :
  OpJ P B ops ⟨some d,.load t (.global g),ty,pos,af,none⟩ { no:=[(nm,.know (L2 g y))],wt:=[(d,.d y)] } :=
 OpJ.run rfl rfl hN rfl λenv ob a w σ Z sm hne=>by
  have hob:=hne.2.1 (nm,.know (L2 g y)) (by simp);obtain⟨_,_,cs,hc,hr,_⟩:=sm.obj nm _ hob;have hl:cs.length=n:=by rw [D.rep_len y cs hr,hn]
  refine⟨D3 ag cs,w,σ,Z,?_,by rw [C9 _ rfl];exact sm,?_⟩
  ·simp only [execOp,Act.eval,Instr.loadAt,Instr.sureAddr,Sem.run_bind,Sem.run_pure,Result.andThen_ok,K7 ht hc hl h1]
  ·rw [C9 _ rfl];exact DV.to ⟨cs,by rw [ha],hr⟩
end
end Go.Vc
namespace Go.Vc
open Go Go.ChangeShapes Go.WideShapes Go.ChangeAt Go.RowKit
variable {P:Program}
variable {n:String}
theorem Gb {w:World} {n:String} {d:DataW Unit}:∀ {l:List (String×DataW Unit)} {ps:List MemPlace},DataW.LaidVars P w l ps->(n,d)∈l ->
  ∃ g t cs fuel p,P.globalNamed n=some g∧(P.globals[g]?).map (·.type)=some t∧w.var? P n=some cs∧DataW.trod (λ_=>()) P w 0 (λ_=>true) false fuel t cs.toList=some (d,p)
 | (n',d') :: l,ps,⟨g,t,cs,fuel,p,q,h1,h2,h3,h4,h5,_⟩,hx=>by
  rcases List.mem_cons.1 hx with e | hx
  ·cases e;exact⟨g,t,cs,fuel,p,h1,h2,h3,h4⟩
  ·exact Gb h5 hx
theorem A3y {w:World} {l:List (String×DataW Unit)} (h:laidMetH P l w) {d:DataW Unit} (hx:(n,d)∈l) (hn:d.handleName? = none) :
  ∃ g t cs fuel p,P.globalNamed n=some g∧(P.globals[g]?).map (·.type)=some t∧w.var? P n=some cs∧DataW.trod (λ_=>()) P w 0 (λ_=>true) false fuel t cs.toList=some (d,p):=by
 obtain⟨⟨ps,hl,_,_⟩,_⟩:=laidMetH_iff.1 h;exact Gb hl (List.mem_filter.2 ⟨hx,by simp [hn]⟩)
theorem A3z {W:World} {g:Nat} {cs:Array Value} (hg:P.globalNamed n=some g) (hv:W.var? P n=some cs):∃ arr t p,W.heap[g]? = some (.cells arr t p)∧arr.size=cs.toList.length:=by
 simp only [World.var?,hg,Option.bind_some] at hv;split at hv
 ·rename_i c t p h;cases hv;exact⟨_,t,p,h,by simp⟩
 ·cases hv
theorem Pp {Z:Nat->Prop} {w:World} {kd:IntKind}:∀ es:List Int,D.repL Z w (es.map (eI kd)) (es.map (Value.int kd))
 | []=>rfl
 | x :: es=>⟨[.int kd x],es.map (Value.int kd),rfl,rfl,Pp es⟩
theorem Ln {W:World} {l:List (String×DataW Unit)} (h:laidMetH P l W) {n:String} {kd:IntKind} {es:List Int} (hx:(n,DataW.agg (es.map λx=>DataW.lit (.int kd x)))∈l) {g t e m:Nat}
  (hg:P.globalNamed n=some g) (ht:(P.globals[g]?).map (·.type)=some t) (hu:P.underlying t=some (.array m e)) (he:P.underlying e=some (.int kd)) (hce:P.cellsOf e=1) (hct:P.cellsOf t=m) (hm:es.length=m) (h0:0<m) (hh:(DataW.agg (es.map λx=>DataW.lit (.int kd x)):DataW Unit).handleName? = none) :
  (L2 g (.arr m 1 (es.map (eI kd)))).holds (Zw W) W:=by
 obtain⟨g',t',cs,fuel,p,hg',ht',hv,hd⟩:=A3y h hx hh;obtain rfl:=Option.some.inj (hg.symm.trans hg');obtain rfl:=Option.some.inj (ht.symm.trans ht');obtain⟨ys,k,_,hag,hl,hy,hall⟩:=DataW.trod_array hu hd;have hE:=congrArg Prod.fst hag;simp only [DataW.agg.injEq] at hE;rw [hce] at hall;rw [hct] at hl;have hcs:cs.toList=es.map (Value.int kd):=by
  refine List.ext_getElem (by rw [hl,List.length_map,hm]) λi h1 h2 => ?_;have hi:i<m:=by rw [<- hl];exact h1
  have:=hall i hi;rw [Nat.mul_one,List.getElem?_eq_getElem (by omega)] at this;obtain⟨v,hv1,hv2,_⟩:=DataW.trod_int he this;have e1:((cs.toList.drop i).take 1)=[cs.toList[i]]:=by rw [List.drop_eq_getElem_cons h1];rfl
  rw [e1] at hv1;have e2:(es.map λx=>(DataW.lit (.int kd x):DataW Unit))[i]? = (ys.map (·.1))[i]? :=by rw [hE]
  rw [List.getElem?_map,List.getElem?_map,List.getElem?_eq_getElem (by omega),List.getElem?_eq_getElem (by omega)] at e2;have e3:=Option.some.inj e2;rw [hv2] at e3;injection e3 with e3;injection e3 with _ e3;rw [List.getElem_map,e3];injection hv1
 have hcell:=World.var?_cell hg hv;have hc0:G6 W g 0 cs.toList:=λj v hj=>by
  rw [Nat.zero_add,hcell j,<- Array.getElem?_toList];exact hj
 refine⟨?_,cs.toList,hc0,⟨by rw [List.length_map];exact hm,λd hd => ?_,?_⟩,A3z hg hv⟩
 ·have h1:0<cs.toList.length:=by rw [hl];exact h0
  exact(Hi (hc0 0 cs.toList[0] (List.getElem?_eq_getElem h1))).2
 ·obtain⟨x,_,rfl⟩:=List.mem_map.1 hd;rfl
 ·rw [hcs];exact Pp es
end Go.Vc
namespace Go.Vc
open Go Go.Proofs Go.ChangeShapes Go.WideShapes Go.ChangeAt Go.RowKit
theorem A40 {P:Program} {W:World} {g t:Nat} {zero:Array Value} {k:IntKind} (h:W.ShapedOpen P) (hg:g<P.globals.size)
  (h0:((begin P (λ_ _=>0) default).world.heap[g]?).bind Obj.row? = some (zero,t)) (hz:zero.size=1)
  (hb:P.buildable t=true) (hc:P.cellTypes P.depth t=some [t]) (hu:P.underlying t=some (.int k)):∃ m,(L2 g (eI k m)).holds (Zw W) W:=by
 obtain⟨m,hm⟩:=cell_of_shapedOpen_int h hg h0 hz hb hc hu;obtain⟨cs,hh,hs,_⟩:=h.1 g zero t hg h0;have hc1:G6 W g 0 [.int k m]:=λj v hj=>by
  match j,hj with
  | 0,hj=>cases hj;exact hm
  | j+1,hj=>simp at hj
 exact⟨m,(Hi hm).2,[.int k m],hc1,rfl,cs,t,_,hh,by rw [hs,hz];rfl⟩
section
variable {H:Type} {enc:TypeId×Value->H}
theorem Ex {a:Assume} {C:Checked} {os:Os} {f:FuncId} {fn:Func} {s:ChangeSpec} {conds:List PathCond} {apart fresh handsOn again:Bool} {X:World->Array Value->Prop}
  (hX:∀ (w w':World) (args:Array Value),w.heap=w'.heap->X w args->X w' args)
  (own:ownKnob C.prog.godebug=none) (started:os.Started) (noInit:C.prog.inits.idxOf? f=none) (hfn:C.prog.funcs[f]? = some fn)
  (witness:∃ (w:World) (tape:Tape) (i:Input),w.os=os∧(w.forCall tape i).Shaped C.prog∧i.vars=[]∧Input.okWide C.prog (w.forCall tape i) .any w.heap.size f i ∧
   ((s.pre enc C.prog fn conds apart (w.forCall tape i).memory i.args∧X (w.forCall tape i).memory i.args)∧sizedMet enc C.prog fn (OpenSpec.ofChange s) apart (w.forCall tape i).memory i.args)∧a.holds C.prog (lone (Frame.enter C.prog f i.args .normal) [] (w.forCall tape i)))
  (contract:∀ (W:World) (base:Nat) (args:Array Value) (ds gs:List (DataW H)) (before:List MemPlace),
   (∀ (j:Nat) t v,fn.params[j]? = some t->args[j]? = some v->Value.okWide C.prog W .any base t v) ->
   DataW.Whole enc C.prog fn.params.toList s.vars apart W args.toList ds gs before->W.ShapedOpen C.prog->X W args ->
   Calls C.prog f args W λe W'=>∃ v,e = .returned v∧s.post enc C.prog fn apart fresh handsOn again W args v W') :
  ReturnsInHanded a C os f .any (λw args=>(s.pre enc C.prog fn conds apart w args∧X w args)∧sizedMet enc C.prog fn (OpenSpec.ofChange s) apart w args) (s.post enc C.prog fn apart fresh handsOn again):=by
 refine returnsInHanded_of_calls own started noInit witness λw tape i _ hsh _ hok hpre _ => ?_;obtain⟨_,_,_,fn',hfn',_,_,_,_,hval⟩:=hok;obtain rfl:fn'=fn:=Option.some.inj (hfn'.symm.trans hfn);obtain⟨⟨⟨ds,gs,before,hw,_⟩,hx⟩,_⟩:=hpre;refine(contract _ _ _ ds gs before hval (DataW.Whole.of_heap (w':=w.forCall tape i) (by rfl) hw) hsh (hX _ (w.forCall tape i) _ (by rfl) hx)).mono λe W' ⟨v,he,hp⟩ => ?_;subst he;exact ChangeSpec.post_blind hp
end
end Go.Vc
