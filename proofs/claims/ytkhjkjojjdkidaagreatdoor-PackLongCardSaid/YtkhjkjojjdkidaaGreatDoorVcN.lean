/- Equality of values without memory. -/
import Derived.Test.YtkhjkjojjdkidaaGreatDoorVcM
import Derived.Laws.StructEq
namespace Go.Vc
open Go
variable {P:Program} {B:Base} {ops:Array Oper}
mutual
/-- x and y are of type t, and their being equal is b -/
inductive FitE (P:Program):Nat→TypeId→D→D→Bool→Prop
 | bool {h:Nat} {t:TypeId} (a b:Bool) (hu:P.underlying t=some .bool):FitE P (h+1) t (.bool a) (.bool b) (a==b)
 | int {h:Nat} {t:TypeId} {q k:IntKind} (a b:Int) (hu:P.underlying t=some (.int q)):FitE P (h+1) t (.int k a) (.int k b) (a==b)
 | str {h:Nat} {t:TypeId} (a b:List UInt8) (hu:P.underlying t=some .string):FitE P (h+1) t (.str a) (.str b) (a==b)
 | st {h:Nat} {t:TypeId} {fs:Array Field} {l:List Field} {xs ys:List D} {b:Bool} (hu:P.underlying t=some (.struct fs)) (hl:fs.toList=l) (hs:P.stoodInHeld t=false):FitF P h 0 l xs ys b→FitE P (h+1) t (.st xs) (.st ys) b
inductive FitF (P:Program):Nat→Nat→List Field→List D→List D→Bool→Prop
 | nil {h o:Nat}:FitF P h o [] [] [] true
 | cons {h o n:Nat} {ag:Bool} {f:Field} {fs:List Field} {x y:D} {xs ys:List D} {b b':Bool} (hn:f.name ≠ "_") (ho:f.offset=o) (ht:TyS P f.type n ag) (hx:x.sz=n∧x.isAgg=ag) (hy:y.sz=n∧y.isAgg=ag) :
   FitE P h f.type x y b→FitF P h (o+n) fs xs ys b'→FitF P h o (f :: fs) (x :: xs) (y :: ys) (b&&b')
end
theorem A4x {t n:Nat} {ag:Bool} (h:TyS P t n ag) (w:World) (c1 c2 c3:List Value) (hl:c2.length=n) (h1:ag=false→n=1) {o:Nat} (ho:c1.length=o) :
  (part t (c1++c2++c3).toArray o).run P w = .ok (valOf ag c2) w:=by
 unfold part
 cases ag with
 | true =>
  simp only [Sem.run_bind,h.run_agg,h.run_size,Result.andThen_ok,if_true,Sem.run_pure,valOf]
  congr 2
  apply Array.ext'
  simp [List.extract,ho,hl]
 | false =>
  have:=h1 rfl
  obtain⟨v,rfl⟩:∃ v,c2=[v]:=by
   match c2,hl with
   | [v],_=>exact⟨v,rfl⟩
   | [],hl=>simp at hl;omega
   | _ :: _ :: _,hl=>simp at hl;omega
  simp only [Sem.run_bind,h.run_agg,Result.andThen_ok,valOf]
  have hg:(c1++v :: c3)[o]? = some v:=by
   rw [← ho];simp
  simp [hg]
mutual
theorem FitE.run {Z Z':Nat→Prop} {w w1 w2:World}:∀ {h:Nat} {t:TypeId} {x y:D} {b:Bool},FitE P h t x y b→∀ {d:Nat},h≤d→∀ {cx cy:List Value},D.rep Z w1 x cx→D.rep Z' w2 y cy →
  (Op.equalIn d t (valOf x.isAgg cx) (valOf y.isAgg cy)).run P w = .ok b w
 | _,_,_,_,_,.bool a b hu,d,hd,cx,cy,hx,hy=>by
  obtain⟨d,rfl⟩:∃ e,d=e+1:=⟨d-1,by omega⟩
  cases hx;cases hy
  simp [valOf,D.isAgg,Op.equalIn,run_underlying hu]
 | _,_,_,_,_,.int a b hu,d,hd,cx,cy,hx,hy=>by
  obtain⟨d,rfl⟩:∃ e,d=e+1:=⟨d-1,by omega⟩
  cases hx;cases hy
  simp [valOf,D.isAgg,Op.equalIn,run_underlying hu]
 | _,_,_,_,_,.str a b hu,d,hd,cx,cy,hx,hy=>by
  obtain⟨d,rfl⟩:∃ e,d=e+1:=⟨d-1,by omega⟩
  cases hx;cases hy
  have hb:((⟨a.toArray⟩:ByteArray)==⟨b.toArray⟩)=(a==b):=by
   show(a.toArray==b.toArray)=(a==b)
   simp
  simp [valOf,D.isAgg,Op.equalIn,run_underlying hu,hb]
 | _,_,_,_,_,.st (t:=t) (fs:=fs) hu hl hs hf,d,hd,cx,cy,hx,hy=>by
  obtain⟨d,rfl⟩:∃ e,d=e+1:=⟨d-1,by omega⟩
  have hfs:P.fieldsOf t=fs:=by simp [Program.fieldsOf,hu]
  simp only [valOf,D.isAgg,if_true]
  rw [run_equalIn_struct w d t cx.toArray cy.toArray (by rw [hfs];exact hu) hs,hfs,hl]
  have:=FitF.run (w:=w) hf (d:=d) (by omega) (px:=[]) (py:=[]) rfl rfl hx hy
  simpa using this
theorem FitF.run {Z Z':Nat→Prop} {w w1 w2:World}:∀ {h o:Nat} {fs:List Field} {xs ys:List D} {b:Bool},FitF P h o fs xs ys b→∀ {d:Nat},h≤d→∀ {px py cx cy:List Value},px.length=o→py.length=o→D.repL Z w1 xs cx→D.repL Z' w2 ys cy →
  (Op.eqFields d (px++cx).toArray (py++cy).toArray fs).run P w = .ok b w
 | _,_,_,_,_,_,.nil,d,_,px,py,cx,cy,_,_,_,_=>by simp [Op.eqFields]
 | _,_,_,_,_,_,.cons (f:=f) (x:=x) (y:=y) (b:=b) hn ho ht hx hy he hf,d,hd,px,py,cx,cy,hpx,hpy,hrx,hry=>by
  obtain⟨c1,c2,rfl,h1,h2⟩:=hrx
  obtain⟨e1,e2,rfl,g1,g2⟩:=hry
  have l1:=D.rep_len _ _ h1
  have l2:=D.rep_len _ _ g1
  obtain⟨hxs,hxa⟩:=hx
  obtain⟨hys,hya⟩:=hy
  have s1:∀ {ag:Bool},x.isAgg=ag→ag=false→x.sz=1:=fun h e=>D.sz_one (h.trans e)
  have p1:=A4x ht w px c1 c2 (l1.trans hxs) (fun e=>by rw [← hxs];exact s1 hxa e) (hpx.trans ho.symm)
  have p2:=A4x ht w py e1 e2 (l2.trans hys) (fun e=>by rw [← hxs];exact s1 hxa e) (hpy.trans ho.symm)
  have pe:=FitE.run (w:=w) he (d:=d) hd h1 g1
  rw [hxa,hya] at pe
  have ih:=FitF.run (w:=w) hf (d:=d) hd (px:=px++c1) (py:=py++e1) (by simp;omega) (by simp;omega) h2 g2
  rw [List.append_assoc] at p1 p2
  simp only [List.append_assoc] at ih
  simp only [Op.eqFields,hn,ne_eq,not_false_eq_true,if_true,Sem.run_bind,p1,p2,pe,Result.andThen_ok]
  cases b with
  | false=>simp
  | true=>simpa using ih
end
section
variable {d:Nat} {ty:TypeId} {pos:String} {af:Array Edge} {nt nt':List (Nat×V)} {x y:Operand} {xt yt:TypeId}
theorem U6 {ob:Obs} {σ:Nat→Option Nat} {Z:Nat→Prop} {w:World} {v:Value} {e:D} (h:RepT ob σ Z w v (.d e)):∃ cs,v=valOf e.isAgg cs∧D.rep Z w e cs:=by
 have h1:RepV ob σ Z w v (.d e):=h
 unfold RepV at h1
 by_cases ha:e.isAgg=true
 ·rw [if_pos (show(V.d e).isAgg=true from ha)] at h1
  obtain⟨cs,h2,h3⟩:=h1
  exact⟨cs,by rw [h2,ha];rfl,h3⟩
 ·rw [if_neg (show ¬ (V.d e).isAgg=true from ha)] at h1
  exact⟨[v],by simp [valOf,ha],h1.1⟩
theorem OpJ.eqlD {h:Nat} {a b:D} {r:Bool} (hf:FitE P h xt a b r) (hg:P.eqGuardType P.depth xt=false) (hag:a.isAgg=true∧b.isAgg=true) (hh:Nat.ble h 10000=true) (hN:d<B.N) (hx:Opd x (.d a) nt) (hy:Opd y (.d b) nt') :
  OpJ P B ops ⟨some d,.binOp .eql xt x y yt,ty,pos,af,none⟩ { nt:=nt++nt',wt:=[(d,.d (.bool r))] } :=
 OpJ.pure rfl rfl hN fun env ob a w σ Z s hn=>by
  obtain⟨h1,h2⟩:=E7 hn
  obtain⟨cx,e1,r1⟩:=U6 (hx B env ob a w σ Z s h1)
  obtain⟨cy,e2,r2⟩:=U6 (hy B env ob a w σ Z s h2)
  have:=hf.run (w:=w) (d:=10000) (Nat.le_of_ble_eq_true hh) r1 r2
  rw [hag.1,hag.2] at this
  rw [hag.1] at e1
  rw [hag.2] at e2
  simp only [valOf,if_true] at this e1 e2
  have g:=fun op=>run_eqGuard_agg (P:=P) w op xt x y cx.toArray cy.toArray hg
  exact⟨.bool r,by simp [execOp,e1,e2,binOp,Op.equal,Op.maxDepth,this,g],O4 _⟩
theorem OpJ.neqD {h:Nat} {a b:D} {r:Bool} (hf:FitE P h xt a b r) (hg:P.eqGuardType P.depth xt=false) (hag:a.isAgg=true∧b.isAgg=true) (hh:Nat.ble h 10000=true) (hN:d<B.N) (hx:Opd x (.d a) nt) (hy:Opd y (.d b) nt') :
  OpJ P B ops ⟨some d,.binOp .neq xt x y yt,ty,pos,af,none⟩ { nt:=nt++nt',wt:=[(d,.d (.bool (!r)))] } :=
 OpJ.pure rfl rfl hN fun env ob a w σ Z s hn=>by
  obtain⟨h1,h2⟩:=E7 hn
  obtain⟨cx,e1,r1⟩:=U6 (hx B env ob a w σ Z s h1)
  obtain⟨cy,e2,r2⟩:=U6 (hy B env ob a w σ Z s h2)
  have:=hf.run (w:=w) (d:=10000) (Nat.le_of_ble_eq_true hh) r1 r2
  rw [hag.1,hag.2] at this
  rw [hag.1] at e1
  rw [hag.2] at e2
  simp only [valOf,if_true] at this e1 e2
  have g:=fun op=>run_eqGuard_agg (P:=P) w op xt x y cx.toArray cy.toArray hg
  exact⟨.bool (!r),by simp [execOp,e1,e2,binOp,Op.equal,Op.maxDepth,this,g],O4 _⟩
theorem OpJ.eqlB {a b:Bool} (hu:P.underlying xt=some .bool) (hN:d<B.N) (hx:Opd x (.d (.bool a)) nt) (hy:Opd y (.d (.bool b)) nt') :
  OpJ P B ops ⟨some d,.binOp .eql xt x y yt,ty,pos,af,none⟩ { nt:=nt++nt',wt:=[(d,.d (.bool (a==b)))] } :=
 OpJ.pure rfl rfl hN fun env ob c w σ Z s hn=>by
  obtain⟨h1,h2⟩:=E7 hn
  have e1:=L5 (hx B env ob c w σ Z s h1)
  have e2:=L5 (hy B env ob c w σ Z s h2)
  have:=(FitE.bool (P:=P) (h:=0) a b hu).run (w:=w) (d:=10000) (by omega) (Z:=Z) (Z':=Z) (w1:=w) (w2:=w) (cx:=[.bool a]) (cy:=[.bool b]) rfl rfl
  simp only [valOf,D.isAgg,Bool.false_eq_true,if_false,List.headD] at this
  have g:(eqGuard .eql xt x y (.bool a) (.bool b)).run P w = .ok () w:=by simp [eqGuard]
  exact⟨.bool (a==b),by simp [execOp,e1,e2,binOp,g,Op.equal,Op.maxDepth,this],O4 _⟩
theorem OpJ.neqB {a b:Bool} (hu:P.underlying xt=some .bool) (hN:d<B.N) (hx:Opd x (.d (.bool a)) nt) (hy:Opd y (.d (.bool b)) nt') :
  OpJ P B ops ⟨some d,.binOp .neq xt x y yt,ty,pos,af,none⟩ { nt:=nt++nt',wt:=[(d,.d (.bool (a != b)))] } :=
 OpJ.pure rfl rfl hN fun env ob c w σ Z s hn=>by
  obtain⟨h1,h2⟩:=E7 hn
  have e1:=L5 (hx B env ob c w σ Z s h1)
  have e2:=L5 (hy B env ob c w σ Z s h2)
  have:=(FitE.bool (P:=P) (h:=0) a b hu).run (w:=w) (d:=10000) (by omega) (Z:=Z) (Z':=Z) (w1:=w) (w2:=w) (cx:=[.bool a]) (cy:=[.bool b]) rfl rfl
  simp only [valOf,D.isAgg,Bool.false_eq_true,if_false,List.headD] at this
  have g:(eqGuard .neq xt x y (.bool a) (.bool b)).run P w = .ok () w:=by simp [eqGuard]
  exact⟨.bool (a != b),by simp [execOp,e1,e2,binOp,g,Op.equal,Op.maxDepth,this,bne],O4 _⟩
end
end Go.Vc
