/- Operations on memory: variables, fields, elements. -/
import Derived.Test.YtkhjkjojjdkidaaGreatDoorVcD
namespace Go.Vc
open Go
variable {P:Program} {B:Base} {ops:Array Oper}
theorem A0h (b o j:Nat):(⟨b,o,none⟩:Addr).add j=⟨b,o+j,none⟩:=by unfold Addr.add;split<;>simp_all
def descAgg:TypeDesc→Bool
 | .struct _ | .array _ _=>true
 | _=>false
structure TyS (P:Program) (t:TypeId) (n:Nat) (ag:Bool):Prop where
 size:(P.info? t).map (·.size)=some n
 agg:(P.underlying t).map descAgg=some ag
theorem TyS.run_size {t n:Nat} {ag:Bool} (h:TyS P t n ag) (w:World):(sizeOf t).run P w = .ok n w:=by
 have:=h.size
 cases hi:P.info? t with
 | none=>simp [hi] at this
 | some i=>simp [hi] at this;simp [sizeOf,typeInfo,hi,this]
theorem TyS.run_agg {t n:Nat} {ag:Bool} (h:TyS P t n ag) (w:World):(isAgg t).run P w = .ok ag w:=by
 have:=h.agg
 cases hu:P.underlying t with
 | none=>simp [hu] at this
 | some d =>
  simp [hu] at this
  unfold isAgg
  rw [Sem.run_bind,run_underlying hu w]
  cases d<;>simp_all [descAgg]
def valOf (ag:Bool) (cs:List Value):Value:=if ag then .agg cs.toArray else cs.headD undef
theorem N3 {t n:Nat} {ag:Bool} (h:TyS P t n ag) {w:World} {b o:Nat} {cs:List Value} (hc:cellsAt w b o cs) (hl:cs.length=n) (h1:ag=false→n=1) :
  (loadVar t ⟨b,o,none⟩).run P w = .ok (valOf ag cs) w:=by
 unfold loadVar
 rw [Sem.run_bind,h.run_agg w]
 cases ag with
 | true =>
  have hlc:=run_loadCells_list (P:=P) w ⟨b,o,none⟩ cs (fun j v hj=>by rw [A0h];exact hc j v hj)
  subst hl
  simp [h.run_size,hlc,valOf]
 | false =>
  have:=h1 rfl
  match cs,hl.trans this with
  | [c],_ =>
   have h0:=hc 0 c rfl
   simp only [Nat.add_zero] at h0
   simp [valOf,load,Sem.run,h0]
theorem A21 {t n:Nat} {ag:Bool} (h:TyS P t n ag) {w:World} {b o e:Nat} {cur:Array Value} {v:Value} (hb:w.heap[b]? = some (.cells cur e (0,0))) (hl:v.cells.size=n)
  (hfit:o+n≤cur.size) (h1:∀ u∈v.cells.toList,u.oneCell'=true) :
  (storeVar t ⟨b,o,none⟩ v).run P w = .ok () (w.setRow b (cur.toList.take o++v.cells.toList++cur.toList.drop (o+n)).toArray):=by
 unfold storeVar
 rw [Sem.run_bind,h.run_size w]
 have:=run_storeCells_at (P:=P) b o e v.cells.toList 0 cur w hb (by simpa [hl] using hfit) h1
 simp only [Result.andThen_ok,hl,ne_eq,not_true_eq_false,if_false]
 simpa [hl] using this
theorem A41 (w:World) (b:Nat) (cs:Array Value) (k:Nat) (h:k≠b):(w.setRow b cs).heap[k]? = w.heap[k]? :=setRow_other w b k cs h
-- where a part lies
inductive At:V→List Nat→Nat→V→Prop
 | here (x:V):At x [] 0 x
 | st {fs:List V} {i:Nat} {p:List Nat} {o off:Nat} {f y:V}:fs[i]? = some f→V.szL (fs.take i)=o→At f p off y→At (.st fs) (i :: p) (o+off) y
 | dst {fs:List D} {i:Nat} {p:List Nat} {o off:Nat} {f:D} {y:V}:fs[i]? = some f→D.szL (fs.take i)=o→At (.d f) p off y→At (.d (.st fs)) (i :: p) (o+off) y
 | arr {n sz:Nat} {es:List D} {i:Nat} {p:List Nat} {off:Nat} {e:D} {y:V}:es[i]? = some e→At (.d e) p off y→At (.d (.arr n sz es)) (i :: p) (i*sz+off) y
section
variable {ob:Obs} {σ:Nat→Option Nat} {Z:Nat→Prop} {w:World}
theorem A42:∀ {fs:List V} {cs:List Value} {i:Nat} {f:V},V.repS ob σ Z w fs cs→fs[i]? = some f →
  ∃ c1 c2 c3,cs=c1++c2++c3∧c1.length=V.szL (fs.take i)∧c2.length=f.sz∧V.rep ob σ Z w f c2 ∧
   (∀ g new,new.length=f.sz→g.sz=f.sz→(∀ u∈new,u.oneCell'=true)→V.rep ob σ Z w g new→V.repS ob σ Z w (fs.set i g) (c1++new++c3))
 | [],_,_,_,_,h=>by simp at h
 | x :: fs,cs,0,f,h,hi=>by
  obtain⟨c1,c2,h1,h2,h3,h4,h5⟩:=h
  simp at hi;subst hi
  exact⟨[],c1,c2,by simp [h1],rfl,h2,h4,fun g new hl hg hone hr=>⟨new,c2,by simp,hl.trans hg.symm,hone,hr,h5⟩⟩
 | x :: fs,cs,i+1,f,h,hi=>by
  obtain⟨c1,c2,h1,h2,h3,h4,h5⟩:=h
  obtain⟨d1,d2,d3,g1,g2,g3,g4,g5⟩:=A42 h5 (by simpa using hi:fs[i]? = some f)
  subst h1;subst g1
  refine⟨c1++d1,d2,d3,by simp,by simp [V.szL,h2,g2],g3,g4,fun g new hl hg hone hr => ?_⟩
  rw [List.set_cons_succ]
  exact⟨c1,d1++new++d3,by simp,h2,h3,h4,g5 g new hl hg hone hr⟩
theorem V4:∀ {fs:List D} {cs:List Value} {i:Nat} {f:D},D.repL Z w fs cs→fs[i]? = some f →
  ∃ c1 c2 c3,cs=c1++c2++c3∧c1.length=D.szL (fs.take i)∧c2.length=f.sz∧D.rep Z w f c2 ∧
   (∀ g new,D.rep Z w g new→D.repL Z w (fs.set i g) (c1++new++c3))
 | [],_,_,_,_,h=>by simp at h
 | x :: fs,cs,0,f,h,hi=>by
  obtain⟨c1,c2,h1,h2,h3⟩:=h
  simp at hi;subst hi
  exact⟨[],c1,c2,by simp [h1],rfl,D.rep_len _ _ h2,h2,fun g new hr=>⟨new,c2,by simp,hr,h3⟩⟩
 | x :: fs,cs,i+1,f,h,hi=>by
  obtain⟨c1,c2,h1,h2,h3⟩:=h
  obtain⟨d1,d2,d3,g1,g2,g3,g4,g5⟩:=V4 h3 (by simpa using hi:fs[i]? = some f)
  subst h1;subst g1
  refine⟨c1++d1,d2,d3,by simp,by simp [D.szL,D.rep_len _ _ h2,g2],g3,g4,fun g new hr => ?_⟩
  rw [List.set_cons_succ]
  exact⟨c1,d1++new++d3,by simp,h2,g5 g new hr⟩
theorem At.cells {x:V} {p:List Nat} {off:Nat} {y:V} (h:At x p off y):∀ {cs:List Value},V.rep ob σ Z w x cs→cs.length=x.sz →
  ∃ c1 c2 c3,cs=c1++c2++c3∧c1.length=off∧c2.length=y.sz∧V.rep ob σ Z w y c2:=by
 induction h with
 | here x=>intro cs hr hl;exact⟨[],cs,[],by simp,rfl,hl,hr⟩
 | st hf ho _ ih =>
  intro cs hr hl
  obtain⟨c1,c2,c3,h1,h2,h3,h4,_⟩:=A42 hr hf
  obtain⟨d1,d2,d3,g1,g2,g3,g4⟩:=ih h4 h3
  subst h1;subst g1
  exact⟨c1++d1,d2,d3++c3,by simp,by simp [h2,ho,g2],g3,g4⟩
 | dst hf ho _ ih =>
  intro cs hr hl
  obtain⟨c1,c2,c3,h1,h2,h3,h4,_⟩:=V4 hr hf
  obtain⟨d1,d2,d3,g1,g2,g3,g4⟩:=ih (cs:=c2) h4 h3
  subst h1;subst g1
  exact⟨c1++d1,d2,d3++c3,by simp,by simp [h2,ho,g2],g3,g4⟩
 | @arr n sz es i p off e y hf _ ih =>
  intro cs hr hl
  obtain⟨hlen,hsz,hr⟩:=hr
  obtain⟨c1,c2,c3,h1,h2,h3,h4,_⟩:=V4 hr hf
  obtain⟨d1,d2,d3,g1,g2,g3,g4⟩:=ih (cs:=c2) h4 h3
  subst h1;subst g1
  have hi:i<es.length:=(List.getElem?_eq_some_iff.1 hf).1
  have:D.szL (es.take i)=i*sz:=by rw [D.szL_all _ (fun x hx=>hsz x (List.mem_of_mem_take hx)),List.length_take,Nat.min_eq_left (by omega)]
  exact⟨c1++d1,d2,d3++c3,by simp,by simp [h2,this,g2],g3,g4⟩
inductive SetAt:V→List Nat→Nat→V→V→Prop
 | here (x y:V):SetAt x [] 0 y y
 | st {fs:List V} {i:Nat} {p:List Nat} {o off:Nat} {f y f':V}:fs[i]? = some f→V.szL (fs.take i)=o→SetAt f p off y f'→f'.sz=f.sz→SetAt (.st fs) (i :: p) (o+off) y (.st (fs.set i f'))
 | dst {fs:List D} {i:Nat} {p:List Nat} {o off:Nat} {f:D} {y:V} {f':D}:fs[i]? = some f→D.szL (fs.take i)=o→SetAt (.d f) p off y (.d f')→f'.sz=f.sz→SetAt (.d (.st fs)) (i :: p) (o+off) y (.d (.st (fs.set i f')))
 | arr {n sz:Nat} {es:List D} {i:Nat} {p:List Nat} {off:Nat} {e:D} {y:V} {e':D}:es[i]? = some e→SetAt (.d e) p off y (.d e')→e'.sz=e.sz→SetAt (.d (.arr n sz es)) (i :: p) (i*sz+off) y (.d (.arr n sz (es.set i e')))
 | lift {fs:List D} {p:List Nat} {off:Nat} {y z:V}:SetAt (.st (fs.map .d)) p off y z→SetAt (.d (.st fs)) p off y z
theorem A43:∀ {fs:List D} {cs:List Value},D.repL Z w fs cs→V.repS ob σ Z w (fs.map .d) cs
 | [],_,h=>h
 | f :: fs,cs,h=>by
  obtain⟨c1,c2,h1,h2,h3⟩:=h
  exact⟨c1,c2,h1,D.rep_len _ _ h2,D.rep_one _ _ h2,h2,A43 h3⟩
theorem A3q:∀ (fs:List D),V.szL (fs.map .d)=D.szL fs
 | []=>rfl
 | f :: fs=>by simp [V.szL,D.szL,V.sz,A3q fs]
theorem B2l:∀ {fs:List V} {i:Nat} {f g:V},fs[i]? = some f→g.sz=f.sz→V.szL (fs.set i g)=V.szL fs
 | [],_,_,_,h,_=>by simp at h
 | x :: fs,0,f,g,h,hg=>by simp at h;subst h;simp [V.szL,hg]
 | x :: fs,i+1,f,g,h,hg=>by simp only [List.set_cons_succ,V.szL];rw [B2l (by simpa using h) hg]
theorem SetAt.cells {x:V} {p:List Nat} {off:Nat} {y z:V} (h:SetAt x p off y z):∀ {cs new:List Value},V.rep ob σ Z w x cs→cs.length=x.sz→V.rep ob σ Z w y new→new.length=y.sz→(∀ u∈new,u.oneCell'=true)→z.sz=x.sz→(∀ u∈cs,u.oneCell'=true) →
  V.rep ob σ Z w z (cs.take off++new++cs.drop (off+new.length))∧off+new.length≤cs.length:=by
 induction h with
 | here x y =>
  intro cs new hr hl hy hn h1 hz _
  have:cs.drop (0+new.length)=[]:=List.drop_eq_nil_of_le (by omega)
  rw [this]
  exact⟨by simpa using hy,by omega⟩
 | @st fs i p o off f y f' hf ho _ hsz ih =>
  intro cs new hr hl hy hn h1 hz hone
  obtain⟨c1,c2,c3,e1,e2,e3,e4,e5⟩:=A42 hr hf
  subst e1
  have ho1:∀ u∈c2,u.oneCell'=true:=fun u hu=>hone u (by simp [hu])
  obtain⟨g1,g2⟩:=ih e4 e3 hy hn h1 hsz ho1
  have hlen:(c2.take off++new++c2.drop (off+new.length)).length=f.sz:=by simp;omega
  have:=e5 f' _ hlen hsz (fun u hu=>by
   rcases List.mem_append.1 hu with hu | hu
   ·rcases List.mem_append.1 hu with hu | hu
    ·exact ho1 u (List.mem_of_mem_take hu)
    ·exact h1 u hu
   ·exact ho1 u (List.mem_of_mem_drop hu)) g1
  have hc1:c1.length=o:=by omega
  refine⟨?_,by simp;omega⟩
  have e:(c1++c2++c3).take (o+off)++new++(c1++c2++c3).drop (o+off+new.length)=c1++(c2.take off++new++c2.drop (off+new.length))++c3:=by
   rw [← hc1,List.append_assoc c1 c2 c3,List.take_length_add_append,List.take_append_of_le_length (by omega),Nat.add_assoc,List.drop_length_add_append,List.drop_append_of_le_length (by omega)]
   simp
  rw [e]
  exact this
 | @dst fs i p o off f y f' hf ho _ hsz ih =>
  intro cs new hr hl hy hn h1 hz hone
  obtain⟨c1,c2,c3,e1,e2,e3,e4,e5⟩:=V4 hr hf
  subst e1
  have ho1:∀ u∈c2,u.oneCell'=true:=fun u hu=>hone u (by simp [hu])
  obtain⟨g1,g2⟩:=ih (cs:=c2) e4 e3 hy hn h1 hsz ho1
  have hc1:c1.length=o:=by omega
  refine⟨?_,by simp;omega⟩
  have e:(c1++c2++c3).take (o+off)++new++(c1++c2++c3).drop (o+off+new.length)=c1++(c2.take off++new++c2.drop (off+new.length))++c3:=by
   rw [← hc1,List.append_assoc c1 c2 c3,List.take_length_add_append,List.take_append_of_le_length (by omega),Nat.add_assoc,List.drop_length_add_append,List.drop_append_of_le_length (by omega)]
   simp
  rw [e]
  exact e5 f' _ g1
 | @arr n sz es i p off e y e' hf _ hsz ih =>
  intro cs new hr hl hy hn h1 hz hone
  obtain⟨hlen,hszs,hr⟩:=hr
  obtain⟨c1,c2,c3,e1,e2,e3,e4,e5⟩:=V4 hr hf
  subst e1
  have ho1:∀ u∈c2,u.oneCell'=true:=fun u hu=>hone u (by simp [hu])
  obtain⟨g1,g2⟩:=ih (cs:=c2) e4 e3 hy hn h1 hsz ho1
  have hi:i<es.length:=(List.getElem?_eq_some_iff.1 hf).1
  have hc1:c1.length=i*sz:=by rw [e2,D.szL_all _ (fun x hx=>hszs x (List.mem_of_mem_take hx)),List.length_take,Nat.min_eq_left (by omega)]
  refine⟨?_,by simp;omega⟩
  have ee:(c1++c2++c3).take (i*sz+off)++new++(c1++c2++c3).drop (i*sz+off+new.length)=c1++(c2.take off++new++c2.drop (off+new.length))++c3:=by
   rw [← hc1,List.append_assoc c1 c2 c3,List.take_length_add_append,List.take_append_of_le_length (by omega),Nat.add_assoc,List.drop_length_add_append,List.drop_append_of_le_length (by omega)]
   simp
  rw [ee]
  refine⟨by simpa using hlen,fun x hx => ?_,e5 e' _ g1⟩
  rcases List.mem_or_eq_of_mem_set hx with hx | hx
  ·exact hszs x hx
  ·subst hx;rw [hsz];exact hszs e (List.mem_of_getElem? hf)
 | lift _ ih =>
  intro cs new hr hl hy hn h1 hz hone
  exact ih (A43 hr) (by rw [hl];simp [V.sz,D.sz,A3q]) hy hn h1 (by rw [hz];simp [V.sz,D.sz,A3q]) hone
theorem RepV.cells {v:Value} {x:V} (h:RepV ob σ Z w v x) (hj:x ≠ .junk):V.rep ob σ Z w x v.cells.toList∧(x.isAgg=false→v.cells = #[v]∧v.oneCell'=true):=by
 unfold RepV at h
 by_cases hx:x.isAgg=true
 ·rw [if_pos hx] at h
  obtain⟨cs,h1,h2⟩:=h
  subst h1
  exact⟨by simpa [Value.cells] using h2,fun e=>by rw [e] at hx;cases hx⟩
 ·rw [if_neg hx] at h
  rcases h.2 with h1 | h1
  ·exact absurd h1 hj
  have hc:v.cells = #[v]:=by cases v<;>first | rfl | simp [Value.oneCell'] at h1
  exact⟨by rw [hc];exact h.1,fun _=>⟨hc,h1⟩⟩
theorem V.rep_len:∀ (x:V) (cs:List Value),V.rep ob σ Z w x cs→x.isAgg=true→cs.length=x.sz∧∀ u∈cs,u.oneCell'=true
 | .st fs,cs,h,_=>by
  have:∀ (fs:List V) (cs:List Value),V.repS ob σ Z w fs cs→cs.length=V.szL fs∧∀ u∈cs,u.oneCell'=true:=by
   intro fs
   induction fs with
   | nil=>intro cs h;cases h;simp [V.szL]
   | cons f fs ih =>
    intro cs h
    obtain⟨c1,c2,h1,h2,h3,_,h5⟩:=h
    subst h1
    obtain⟨g1,g2⟩:=ih c2 h5
    refine⟨by simp [V.szL,h2,g1],fun u hu => ?_⟩
    rcases List.mem_append.1 hu with hu | hu
    ·exact h3 u hu
    ·exact g2 u hu
  exact this fs cs h
 | .d x,cs,h,_=>⟨D.rep_len x cs h,D.rep_one x cs h⟩
 | .junk,_,_,h=>by simp [V.isAgg] at h
 | .nils,_,_,h=>by simp [V.isAgg] at h
 | .ptr ..,_,_,h=>by simp [V.isAgg] at h
 | .dptr _,_,_,h=>by simp [V.isAgg] at h
 | .sref ..,_,_,h=>by simp [V.isAgg] at h
 | .func ..,_,_,h=>by simp [V.isAgg] at h
 | .tup _,_,_,h=>by simp [V.isAgg] at h
 | .opt ..,_,_,h=>by simp [V.isAgg] at h
 | .mref _,_,_,h=>by simp [V.isAgg] at h
 | .full ..,_,_,h=>by simp [V.isAgg] at h
theorem D.sz_one {x:D} (h:x.isAgg=false):x.sz=1:=by cases x<;>simp_all [D.sz,D.isAgg]
theorem V.sz_one {x:V} (h:x.isAgg=false):x.sz=1:=by
 cases x with
 | d y=>exact D.sz_one h
 | st fs=>simp [V.isAgg] at h
 | _=>rfl
theorem RepV.full {v:Value} {x:V} (h:RepV ob σ Z w v x) (hj:x ≠ .junk):V.rep ob σ Z w x v.cells.toList∧v.cells.size=x.sz∧(∀ u∈v.cells.toList,u.oneCell'=true):=by
 obtain⟨h1,h2⟩:=h.cells hj
 cases hx:x.isAgg with
 | true =>
  obtain⟨g1,g2⟩:=V.rep_len x _ h1 hx
  exact⟨h1,by simpa using g1,g2⟩
 | false =>
  obtain⟨g1,g2⟩:=h2 hx
  refine⟨h1,?_,?_⟩
  ·rw [g1]
   simp [V.sz_one hx]
  ·rw [g1];simpa using g2
theorem RepV.of_cells {x:V} {cs:List Value} (h:V.rep ob σ Z w x cs) (hl:cs.length=x.sz) (h1:∀ u∈cs,u.oneCell'=true) (ag:Bool) (hag:x.isAgg=ag):RepV ob σ Z w (valOf ag cs) x:=by
 subst hag
 unfold RepV valOf
 cases hx:x.isAgg with
 | true=>simp only [if_true];exact⟨cs,rfl,h⟩
 | false =>
  match cs,hl.trans (V.sz_one hx) with
  | [c],_=>simpa using ⟨h,.inr (h1 c (by simp))⟩
end
end Go.Vc
