/- Operations that make memory: variables, structs, slices, append, make; lengths, cuts. -/
import Derived.Test.YtkhjkjojjdkidaaGreatDoorVcF
import Derived.Laws.MakeOwn
namespace Go.Vc
open Go
variable {P:Program} {B:Base} {ops:Array Oper}
-- values that are read as other values
mutual
inductive Co:V→D→Prop
 | d (x:D):Co (.d x) x
 | nils (sz:Nat):Co .nils (.list sz [])
 | st {fs:List V} {ds:List D}:CoL fs ds→Co (.st fs) (.st ds)
inductive CoL:List V→List D→Prop
 | nil:CoL [] []
 | cons {f:V} {d:D} {fs:List V} {ds:List D}:Co f d→CoL fs ds→CoL (f :: fs) (d :: ds)
end
section
variable {ob:Obs} {σ:Nat→Option Nat} {Z:Nat→Prop} {w:World}
mutual
theorem Co.rep:∀ {x:V} {y:D} {cs:List Value},Co x y→V.rep ob σ Z w x cs→D.rep Z w y cs
 | _,_,_,.d _,h=>h
 | _,_,_,.nils sz,h=>by cases h;exact⟨none,0,rfl,Nat.le_refl _,by omega,.inl rfl⟩
 | _,_,_,.st hl,h=>CoL.rep hl h
theorem CoL.rep:∀ {xs:List V} {ys:List D} {cs:List Value},CoL xs ys→V.repS ob σ Z w xs cs→D.repL Z w ys cs
 | _,_,_,.nil,h=>h
 | _,_,_,.cons h1 h2,h=>by
  obtain⟨c1,c2,e,_,_,g1,g2⟩:=h
  exact⟨c1,c2,e,h1.rep g1,h2.rep g2⟩
end
theorem Co.agg {x:V} {y:D} (h:Co x y):x.isAgg=y.isAgg:=by cases h<;>rfl
theorem Co.repV {x:V} {y:D} {v:Value} (h:Co x y) (hr:RepV ob σ Z w v x):RepV ob σ Z w v (.d y):=by
 unfold RepV at *
 have e:(V.d y).isAgg=x.isAgg:=h.agg.symm
 rw [e]
 by_cases hx:x.isAgg=true
 ·rw [if_pos hx] at hr ⊢
  obtain⟨cs,h1,h2⟩:=hr
  exact⟨cs,h1,h.rep h2⟩
 ·rw [if_neg hx] at hr ⊢
  refine⟨h.rep hr.1,.inr ?_⟩
  rcases hr.2 with h2 | h2
  ·subst h2;cases h
  ·exact h2
theorem Co.notTup {x:V} {y:D} (h:Co x y):x.isTop=false:=by cases h<;>rfl
theorem Co.repT {x:V} {y:D} {v:Value} (h:Co x y) (hr:RepT ob σ Z w v x):RepT ob σ Z w v (.d y):=RepT.of (h.repV (hr.to h.notTup)) rfl
end
theorem Opd.co {x:Operand} {v:V} {y:D} {nt:List (Nat×V)} (h:Co v y) (hx:Opd x v nt):Opd x (.d y) nt:=fun B env ob a w σ Z s hn=>h.repT (hx B env ob a w σ Z s hn)
-- values without memory
mutual
def D.enc:D→List Value
 | .bool b=>[.bool b]
 | .int k n=>[.int k n]
 | .str s=>[.string ⟨s.toArray⟩]
 | .st fs=>D.encL fs
 | .arr _ _ es=>D.encL es
 | .list _ _=>[.slice none 0 0]
 | .imap _=>[.map none]
def D.encL:List D→List Value
 | []=>[]
 | f :: fs=>D.enc f++D.encL fs
end
mutual
def D.plain:D→Bool
 | .st fs=>D.plainL fs
 | .arr n sz es=>Nat.beq es.length n&&D.plainL es&&D.szs sz es
 | .list _ es=>es.isEmpty
 | .imap _=>false
 | _=>true
def D.plainL:List D→Bool
 | []=>true
 | f :: fs=>D.plain f&&D.plainL fs
def D.szs:Nat→List D→Bool
 | _,[]=>true
 | sz,f :: fs=>Nat.beq f.sz sz&&D.szs sz fs
end
theorem D.szs_spec {sz:Nat}:∀ {es:List D},D.szs sz es=true→∀ e∈es,e.sz=sz
 | [],_,_,h=>by cases h
 | x :: es,h,e,he=>by
  simp only [D.szs,Bool.and_eq_true] at h
  rcases List.mem_cons.1 he with he | he
  ·subst he;exact Nat.eq_of_beq_eq_true h.1
  ·exact D.szs_spec h.2 e he
mutual
theorem D.rep_enc {Z:Nat→Prop} {w:World}:∀ (x:D),x.plain=true→D.rep Z w x x.enc
 | .bool _,_=>rfl
 | .int _ _,_=>rfl
 | .str _,_=>rfl
 | .st fs,h=>D.repL_enc fs h
 | .arr n sz es,h=>by
  simp only [D.plain,Bool.and_eq_true] at h
  exact⟨Nat.eq_of_beq_eq_true h.1.1,D.szs_spec h.2,D.repL_enc es h.1.2⟩
 | .list _ es,h=>by
  have:es=[]:=by simpa [D.plain] using h
  subst this
  exact⟨none,0,rfl,Nat.le_refl _,by omega,.inl rfl⟩
 | .imap _,h=>by cases h
theorem D.repL_enc {Z:Nat→Prop} {w:World}:∀ (xs:List D),D.plainL xs=true→D.repL Z w xs (D.encL xs)
 | [],_=>rfl
 | x :: xs,h=>by
  simp only [D.plainL,Bool.and_eq_true] at h
  exact⟨_,_,rfl,D.rep_enc x h.1,D.repL_enc xs h.2⟩
end
mutual
/-- a zero: data, or nil, or a struct of them -/
def V.enc:V→List Value
 | .d x=>x.enc
 | .nils=>[.slice none 0 0]
 | .st fs=>V.encL fs
 | _=>[]
def V.encL:List V→List Value
 | []=>[]
 | f :: fs=>V.enc f++V.encL fs
end
mutual
def V.plain:V→Bool
 | .d x=>x.plain
 | .nils=>true
 | .st fs=>V.plainL fs
 | _=>false
def V.plainL:List V→Bool
 | []=>true
 | f :: fs=>V.plain f&&V.plainL fs
end
mutual
theorem V.rep_enc {ob:Obs} {σ:Nat→Option Nat} {Z:Nat→Prop} {w:World}:∀ (x:V),x.plain=true→V.rep ob σ Z w x x.enc∧x.enc.length=x.sz∧∀ u∈x.enc,u.oneCell'=true
 | .d x,h=>by
  have h1:=D.rep_enc (Z:=Z) (w:=w) x h
  exact⟨h1,D.rep_len x _ h1,D.rep_one x _ h1⟩
 | .nils,_=>by simp [V.rep,V.enc,V.sz,Value.oneCell']
 | .st fs,h=>V.repS_enc fs h
 | .junk,h=>by simp [V.plain] at h
 | .ptr ..,h=>by simp [V.plain] at h
 | .dptr _,h=>by simp [V.plain] at h
 | .sref ..,h=>by simp [V.plain] at h
 | .func ..,h=>by simp [V.plain] at h
 | .tup _,h=>by simp [V.plain] at h
 | .opt ..,h=>by simp [V.plain] at h
 | .mref _,h=>by simp [V.plain] at h
 | .full ..,h=>by simp [V.plain] at h
theorem V.repS_enc {ob:Obs} {σ:Nat→Option Nat} {Z:Nat→Prop} {w:World}:∀ (xs:List V),V.plainL xs=true→V.repS ob σ Z w xs (V.encL xs)∧(V.encL xs).length=V.szL xs∧∀ u∈V.encL xs,u.oneCell'=true
 | [],_=>by simp [V.repS,V.encL,V.szL]
 | x :: xs,h=>by
  simp only [V.plainL,Bool.and_eq_true] at h
  obtain⟨h1,h2,h3⟩:=V.rep_enc (ob:=ob) (σ:=σ) (Z:=Z) (w:=w) x h.1
  obtain⟨g1,g2,g3⟩:=V.repS_enc (ob:=ob) (σ:=σ) (Z:=Z) (w:=w) xs h.2
  refine⟨⟨_,_,rfl,h2,h3,h1,g1⟩,by simp [V.encL,V.szL,h2,g2],fun u hu => ?_⟩
  rcases List.mem_append.1 hu with hu | hu
  ·exact h3 u hu
  ·exact g3 u hu
end
structure TyZ (P:Program) (t:TypeId) (z:V):Prop where
 plain:z.plain=true
 run:∀ w,(zeroValue t).run P w = .ok (valOf z.isAgg z.enc) w
theorem TyZ.cells {t:TypeId} {z:V} (h:TyZ P t z):(valOf z.isAgg z.enc).cells.toList=z.enc:=by
 obtain⟨_,h2,h3⟩:=V.rep_enc (ob:=fun _=>none) (σ:=fun _=>none) (Z:=fun _=>False) (w:=default) z h.plain
 cases hz:z.isAgg with
 | true=>simp [valOf,Value.cells]
 | false =>
  have:=h2.trans (V.sz_one hz)
  match hc:z.enc,this with
  | [c],_ =>
   have:c.oneCell'=true:=h3 c (by simp [hc])
   cases c<;>first | rfl | simp [Value.oneCell'] at this
section
variable {d:Nat} {x y i:Operand} {ty:TypeId} {pos:String} {af:Array Edge} {nt nt':List (Nat×V)}
theorem A04 (w:World) (t:TypeId) (cs:Array Value):(newRow t cs).run P w = .ok ⟨w.heap.size,0,none⟩ (w.alloc (.cells cs t)):=by
 simp [newRow,newObj,Sem.run]
theorem OpJ.alloc {t:TypeId} {z:V} (hB:B.ok) (hz:TyZ P t z) {nm:Nat} (hnm:1000≤nm) (hN:d<B.N) :
  OpJ P B ops ⟨some d,.alloc t,ty,pos,af,none⟩ { nf:=[nm],wt:=[(d,.ptr nm 0 [])],wo:=[(nm,some (.box t z))] } :=
 OpJ.run rfl rfl hN rfl fun env ob a w σ Z sm hne=>by
  have hn:ob nm=none:=hne.2.2 nm (by simp)
  obtain⟨h1,h2,h3⟩:=V.rep_enc (ob:=ob) (σ:=σ) (Z:=Z) (w:=w) z hz.plain
  have hc:=hz.cells
  have s':=sm.newObj hB hn hnm (o:=.box t z) (c:=.cells (valOf z.isAgg z.enc).cells t) fun ob' σ' m hs=>⟨w.heap.size,_,hs,heap_alloc_new w _,by rw [hc];exact h3,by rw [← Array.length_toList,hc];exact h2,by rw [hc];exact V.rep_move m z _ h1⟩
  refine⟨.pointer (some ⟨w.heap.size,0,none⟩),_,_,_,?_,by rw [N4 _ rfl];exact s',by rw [N4 _ rfl];exact B02 (by rw [D6];simp) (by simp [updS])⟩
  simp only [execOp,Instr.alloc,Sem.run_bind,hz.run,Result.andThen_ok,newVar,A04,Sem.run_pure]
theorem OpJ.box {t:TypeId} {v:V} (hB:B.ok) {nm:Nat} (hnm:1000≤nm) (hj:v ≠ .junk) (hnt:v.isTop=false) (hN:d<B.N) (hx:Opd x v nt) :
  OpJ P B ops ⟨some d,.box t x,ty,pos,af,none⟩ { nt,nf:=[nm],wt:=[(d,.ptr nm 0 [])],wo:=[(nm,some (.box t v))] } :=
 OpJ.run rfl rfl hN rfl fun env ob a w σ Z sm hne=>by
  have hn:ob nm=none:=hne.2.2 nm (by simp)
  obtain⟨h1,h2,h3⟩:=(RepT.to (hx B env ob a w σ Z sm hne.1) hnt).full hj
  have s':=sm.newObj hB hn hnm (o:=.box t v) (c:=.cells (a.eval x).cells t) fun ob' σ' m hs=>⟨w.heap.size,_,hs,heap_alloc_new w _,h3,h2,V.rep_move m v _ h1⟩
  refine⟨.pointer (some ⟨w.heap.size,0,none⟩),_,_,_,?_,by rw [N4 _ rfl];exact s',by rw [N4 _ rfl];exact B02 (by rw [D6];simp) (by simp [updS])⟩
  simp only [execOp,Instr.box,Sem.run_bind,newVar,A04,Result.andThen_ok,Sem.run_pure]
-- structs written out
theorem A9j:∀ (l:List Value) (k off:Nat) (cs:Array Value),off+k+l.length≤cs.size →
  ((l.zipIdx k).foldl (fun(cs:Array Value) (p:Value×Nat)=>cs.setIfInBounds (off+p.2) p.1) cs).toList=cs.toList.take (off+k)++l++cs.toList.drop (off+k+l.length)
 | [],k,off,cs,_=>by simp
 | v :: l,k,off,cs,h=>by
  simp only [List.zipIdx_cons,List.foldl_cons]
  simp only [List.length_cons] at h
  rw [A9j l (k+1) off _ (by simp;omega)]
  have hlt:off+k<cs.toList.length:=by simp;omega
  simp only [Array.toList_setIfInBounds,List.length_cons,← Nat.add_assoc]
  rw [List.drop_set_of_lt (by omega),List.take_add_one]
  rw [List.take_set_of_le (Nat.le_refl _)]
  rw [List.getElem?_set_self hlt]
  simp only [Option.toList_some,List.append_assoc,List.cons_append,List.nil_append]
  rw [show off+k+l.length+1=off+k+1+l.length from by omega]
theorem B39 {place:Nat→Option (Nat×Nat)} {cells:Array Value} {k off size:Nat} {v:Value} {rest:List (Nat×Value)} (hp:place k=some (off,size)) (hs:v.cells.size=size) (hfit:off+size≤cells.size) :
  ∃ cells':Array Value,cells'.toList=cells.toList.take off++v.cells.toList++cells.toList.drop (off+size)∧Instr.fill place cells ((k,v) :: rest)=Instr.fill place cells' rest:=by
 refine⟨v.cells.zipIdx.foldl (fun cs p=>cs.setIfInBounds (off+p.2) p.1) cells,?_,?_⟩
 ·rw [← Array.foldl_toList,Array.toList_zipIdx]
  have:=A9j v.cells.toList 0 off cells (by simpa [hs] using hfit)
  simpa [hs] using this
 ·simp only [Instr.fill,hp]
  rw [if_neg]
  simp [hs];omega
inductive Opds:List (Nat×Operand)→List (Nat×V)→List (Nat×V)→Prop
 | nil:Opds [] [] []
 | cons {i:Nat} {x:Operand} {v:V} {nt nt':List (Nat×V)} {xs:List (Nat×Operand)} {vs:List (Nat×V)}:Opd x v nt→Opds xs vs nt'→Opds ((i,x) :: xs) ((i,v) :: vs) (nt++nt')
def okParts (places:List (Nat×Nat)):List V→List (Nat×V)→Bool
 | _,[]=>true
 | cur,(i,x) :: ps=>match cur[i]? with
  | none=>false
  | some f=>Nat.beq x.sz f.sz&&(match places[i]? with | some (o,n)=>Nat.beq o (V.szL (cur.take i))&&Nat.beq n f.sz | none=>false) &&
   (match x with | .junk=>false | x => !x.isTop)&&okParts places (cur.set i x) ps
def setParts:List V→List (Nat×V)→List V
 | cur,[]=>cur
 | cur,(i,x) :: ps=>setParts (cur.set i x) ps
theorem A2k {places:List (Nat×Nat)} {ob:Obs} {σ:Nat→Option Nat} {Z:Nat→Prop} {w:World} {B:Base} {env:Env} {a:Act} (sm:Sim B env ob a w σ Z) :
  ∀ {xs:List (Nat×Operand)} {vs nt:List (Nat×V)},Opds xs vs nt→(∀ p∈nt,env p.1=some p.2)→∀ {cur:List V} {cells:Array Value},okParts places cur vs=true→V.repS ob σ Z w cur cells.toList→cells.size=V.szL cur→(∀ u∈cells.toList,u.oneCell'=true) →
   ∃ cells',Instr.fill (fun i=>places[i]?) cells (xs.map fun p=>(p.1,a.eval p.2))=some cells'∧V.repS ob σ Z w (setParts cur vs) cells'.toList∧(∀ u∈cells'.toList,u.oneCell'=true)
 | _,_,_,.nil,_,cur,cells,_,hr,_,h1=>⟨cells,rfl,hr,h1⟩
 | _,_,_,@Opds.cons i x v nt nt' xs vs hx hxs,hn,cur,cells,hok,hr,hsz,h1=>by
  obtain⟨hn1,hn2⟩:=E7 hn
  simp only [okParts] at hok
  cases hc:cur[i]? with
  | none=>simp [hc] at hok
  | some f =>
   simp only [hc,Bool.and_eq_true] at hok
   obtain⟨⟨⟨hsz',hpl⟩,hnj⟩,hrest⟩:=hok
   have hvs:=Nat.eq_of_beq_eq_true hsz'
   have hj:v ≠ .junk:=by rintro rfl;simp at hnj
   have hnt:v.isTop=false:=by cases v<;>simp_all [V.isTop]
   cases hp:places[i]? with
   | none=>simp [hp] at hpl
   | some q =>
    obtain⟨o,n⟩:=q
    simp only [hp,Bool.and_eq_true] at hpl
    have ho:=Nat.eq_of_beq_eq_true hpl.1
    have hn':=Nat.eq_of_beq_eq_true hpl.2
    obtain⟨g1,g2,g3⟩:=(RepT.to (hx B env ob a w σ Z sm hn1) hnt).full hj
    obtain⟨c1,c2,c3,e1,e2,e3,e4,e5⟩:=A42 hr hc
    have hlen:cells.size=c1.length+c2.length+c3.length:=by rw [← Array.length_toList,e1];simp [Nat.add_assoc]
    obtain⟨cells',k1,k2⟩:=B39 (place:=fun i=>places[i]?) (cells:=cells) (k:=i) (v:=a.eval x) (rest:=xs.map fun p=>(p.1,a.eval p.2)) hp (by omega) (by omega)
    have k1':cells'.toList=c1++(a.eval x).cells.toList++c3:=by
     rw [k1,e1,show o=c1.length from by omega,show n=c2.length from by omega,List.append_assoc c1 c2 c3,List.take_left,List.drop_length_add_append,List.drop_left]
    have hnew:=e5 v (a.eval x).cells.toList (by rw [Array.length_toList];omega) hvs g3 g1
    obtain⟨cells'',m1,m2,m3⟩:=A2k sm hxs hn2 (cur:=cur.set i v) (cells:=cells') hrest (by rw [k1'];exact hnew) (by
     rw [B2l hc hvs,← hsz,hlen,← Array.length_toList,k1'];simp;omega) (fun u hu=>by
     rw [k1'] at hu
     simp only [List.mem_append] at hu
     rcases hu with (hu | hu) | hu
     ·exact h1 u (by rw [e1];simp [hu])
     ·exact g3 u hu
     ·exact h1 u (by rw [e1];simp [hu]))
    exact⟨cells'',by rw [List.map_cons,k2];exact m1,m2,m3⟩
structure TyF (P:Program) (t:TypeId) (fs:Array Field) (places:List (Nat×Nat)):Prop where
 und:P.underlying t=some (.struct fs)
 run:∀ w,(fs.mapM fun f=>do pure (f.offset,← sizeOf f.type):Sem (Array (Nat×Nat))).run P w = .ok places.toArray w
theorem OpJ.build {t:TypeId} {fs:Array Field} {places:List (Nat×Nat)} {zs:List V} (hf:TyF P t fs places) (hz:TyZ P t (.st zs)) {parts:List (Nat×Operand)} {vs:List (Nat×V)} {nt:List (Nat×V)} (hx:Opds parts vs nt)
  (hok:okParts places zs vs=true) {r:V} (hr:r = .st (setParts zs vs)) (hN:d<B.N) :
  OpJ P B ops ⟨some d,.build t parts.toArray,ty,pos,af,none⟩ { nt,wt:=[(d,r)] } :=
 OpJ.pure rfl rfl hN fun env ob a w σ Z sm hne=>by
  obtain⟨h1,h2,h3⟩:=V.rep_enc (ob:=ob) (σ:=σ) (Z:=Z) (w:=w) (.st zs) hz.plain
  have hc:(valOf (V.st zs).isAgg (V.st zs).enc).cells=(V.st zs).enc.toArray:=by simp [valOf,V.isAgg,Value.cells]
  obtain⟨cells',k1,k2,_⟩:=A2k sm hx hne (cells:=(V.st zs).enc.toArray) hok h1 h2 h3
  have hagg:RepV ob σ Z w (.agg cells') (.st (setParts zs vs)):=by
   unfold RepV
   rw [if_pos (show V.isAgg (.st (setParts zs vs))=true from rfl)]
   exact⟨cells'.toList,by simp,k2⟩
  refine⟨.agg cells',?_,by subst hr;exact RepT.of hagg rfl⟩
  have hmap:(parts.toArray.map fun p=>(p.1,a.eval p.2)).toList=parts.map fun p=>(p.1,a.eval p.2):=by simp
  have hpl:(fun(i:Nat)=>places.toArray[i]?)=fun(i:Nat)=>places[i]? :=by funext i;simp
  simp only [execOp,Instr.build,Sem.run_bind,hz.run,Result.andThen_ok,run_underlying hf.und,hf.run,hc,hpl,hmap,k1,Sem.run_pure]
theorem OpJ.coe {o:Oper} {α:Eff} {d:Nat} {v:V} {y:D} (hc:Co v y) (hwt:α.wt=[(d,v)]) (h:OpJ P B ops o α):OpJ P B ops o { α with wt:=[(d,.d y)] }:=by
 intro Q env ob a w σ Z K s hn hK
 refine h Q env ob a w σ Z K s hn fun a' w' σ' Z' s'=>hK a' w' σ' Z' ?_
 rw [N2 _ rfl]
 rw [N2 _ hwt] at s'
 refine { s' with env:=fun k x hk => ?_ }
 unfold upd at hk
 by_cases he:k=d
 ·rw [if_pos he] at hk
  obtain⟨u,hu,hr⟩:=s'.env k v (by simp [upd,he])
  cases hk
  exact⟨u,hu,hc.repT hr⟩
 ·rw [if_neg he] at hk
  exact s'.env k x (by simpa [upd,he] using hk)
-- slices written out
theorem V5 {Z:Nat→Prop} {w:World} {z:D} (h:z.plain=true):∀ n,D.repL Z w (List.replicate n z) (List.replicate n z.enc).flatten
 | 0=>by simp [D.repL]
 | n+1=>by
  rw [List.replicate_succ,List.replicate_succ,List.flatten_cons]
  exact⟨_,_,rfl,D.rep_enc z h,V5 h n⟩
theorem A4q {ob:Obs} {σ:Nat→Option Nat} {Z:Nat→Prop} {w:World}:∀ {es:List D} {cs:List Value},V.repS ob σ Z w (es.map .d) cs→D.repL Z w es cs
 | [],_,h=>h
 | e :: es,cs,h=>by
  obtain⟨c1,c2,h1,_,_,h4,h5⟩:=h
  exact⟨c1,c2,h1,h4,A4q h5⟩
theorem R0 (z:List Value) (hz:0<z.length):∀ n,((List.range (n*z.length)).map fun i=>z.toArray[i % z.toArray.size]!)=(List.replicate n z).flatten
 | 0=>by simp
 | n+1=>by
  rw [List.replicate_succ',List.flatten_append,← R0 z hz n,Nat.succ_mul,List.range_add,List.map_append,List.map_map]
  congr 1
  simp only [List.flatten_cons,List.flatten_nil,List.append_nil]
  refine List.ext_getElem (by simp) fun k h1 h2 => ?_
  have hk:k<z.length:=h2
  simp only [List.getElem_map,List.getElem_range,Function.comp,List.size_toArray]
  rw [show(n*z.length+k) % z.length=k from by rw [Nat.add_comm,Nat.add_mul_mod_self_right,Nat.mod_eq_of_lt hk]]
  simp [hk]
theorem OpJ.buildSlice {t e:TypeId} {sz:Nat} {ag:Bool} {z:D} (hu:P.underlying t=some (.slice e)) (ht:TyS P e sz ag) (hz:TyZ P e (.d z)) (hzs:z.sz=sz) (h0:0<sz) {n:Nat} (hn24:n*sz≤16777216)
  {parts:List (Nat×Operand)} {vs:List (Nat×V)} {nt:List (Nat×V)} (hx:Opds parts vs nt) (hok:okParts ((List.range n).map fun i=>(i*sz,sz)) (List.replicate n (.d z)) vs=true)
  {es:List D} (hes:es.map V.d=setParts (List.replicate n (.d z)) vs) (hel:es.length=n) (hsz:D.szs sz es=true) (hpn:∀ p∈parts,p.1<n) (hN:d<B.N) :
  OpJ P B ops ⟨some d,.buildSlice t n parts.toArray,ty,pos,af,none⟩ { nt,wt:=[(d,.d (.list sz es))] } :=
 OpJ.run rfl rfl hN rfl fun env ob a w σ Z sm hne=>by
  have hzp:z.plain=true:=hz.plain
  have hrep:=D.rep_enc (Z:=Z) (w:=w) z hzp
  have hzl:=D.rep_len z _ hrep
  have hcells:(valOf (V.d z).isAgg (V.d z).enc).cells=z.enc.toArray:=by
   have:=hz.cells
   rw [← Array.toArray_toList (xs:=(valOf (V.d z).isAgg (V.d z).enc).cells),this];rfl
  have hzr:=V5 (Z:=Z) (w:=w) hzp n
  have hV:V.repS ob σ Z w (List.replicate n (.d z)) (List.replicate n z.enc).flatten:=by
   have:=A43 (ob:=ob) (σ:=σ) hzr
   simpa using this
  have hone:∀ u∈(List.replicate n z.enc).flatten,u.oneCell'=true:=D.repL_one _ _ hzr
  obtain⟨cells',k1,k2,k3⟩:=A2k sm hx hne.1 (cells:=(List.replicate n z.enc).flatten.toArray) hok (by simpa using hV) (by
   have:=D.repL_len _ _ hzr
   rw [List.size_toArray,this]
   rw [← A3q];simp) (by simpa using hone)
  rw [← hes] at k2
  have hL:=A4q k2
  have hlen:cells'.size=n*sz:=by
   have:=D.repL_len _ _ hL
   rw [D.szL_all es (D.szs_spec hsz),hel] at this
   rw [← Array.length_toList];exact this
  have s1:=sm.allocZ (.cells cells' e)
  have hext:Ext Z (fun b=>Z b∨b=w.heap.size) w (w.alloc (.cells cells' e)):=⟨fun _ h => .inl h,fun b h=>Go.RowKit.Below.heap_alloc w _ b (sm.zlt b h)⟩
  refine⟨.slice (some ⟨w.heap.size,0,none⟩) n n,_,σ,_,?_,by rw [G4 _ rfl];exact s1,?_⟩
  ·have hmap:(parts.toArray.map fun p=>(p.1,a.eval p.2)).toList=parts.map fun p=>(p.1,a.eval p.2):=by simp
   have hpl:∀ (l:List (Nat×Value)),(∀ p∈l,p.1<n)→∀ (c:Array Value),Instr.fill (fun i=>some (i*sz,sz)) c l=Instr.fill (fun i=>((List.range n).map fun i=>(i*sz,sz))[i]?) c l:=by
    intro l
    induction l with
    | nil=>intro _ c;rfl
    | cons p l ih =>
     intro hp c
     obtain⟨k,v⟩:=p
     have hk:k<n:=hp (k,v) (by simp)
     have hk2:((List.range n).map fun i=>(i*sz,sz))[k]? = some (k*sz,sz):=by simp [List.getElem?_map,List.getElem?_range hk]
     simp only [Instr.fill,hk2]
     split
     ·rfl
     ·exact ih (fun p hp'=>hp p (by simp [hp'])) _
   have h1:(parts.map fun p=>(p.1,a.eval p.2)).all (fun p=>decide (p.1<n))=true:=by
    rw [List.all_eq_true]
    intro q hq
    obtain⟨p,hp,rfl⟩:=List.mem_map.1 hq
    simpa using hpn p hp
   have hfill:=hpl (parts.map fun p=>(p.1,a.eval p.2)) (fun p hp=>by simpa using List.all_eq_true.1 h1 p hp) ((List.replicate n z.enc).flatten.toArray)
   rw [k1] at hfill
   have hzero:((Array.range (n*sz)).map fun i=>z.enc.toArray[i % z.enc.toArray.size]!)=(List.replicate n z.enc).flatten.toArray:=by
    have:=R0 z.enc (by omega) n
    rw [← this,hzl,hzs]
    apply Array.toList_inj.1
    simp
   by_cases hnz:n*sz=0
   ·have hn0:n=0:=by rcases Nat.mul_eq_zero.1 hnz with h | h<;>omega
    subst hn0
    have hnil:parts=[]:=by
     cases parts with
     | nil=>rfl
     | cons p _=>have:=hpn p (by simp);omega
    subst hnil
    have hc':cells' = #[]:=by simpa [Instr.fill] using k1.symm
    have hr0:(Array.map (fun _=>(default:Value)) (Array.range 0)) = #[]:=by apply Array.toList_inj.1;simp
    simp [execOp,Instr.buildSlice,run_underlying hu,ht.run_size,hc',Instr.fill,A04,hr0]
   ·simp only [execOp,Instr.buildSlice,Sem.run_bind,run_underlying hu,Result.andThen_ok,ht.run_size,Sem.run_pure,hmap]
    rw [if_neg (show ¬ n*sz > 2 ^ 24 from by omega),if_neg hnz]
    simp only [Sem.run_bind,hz.run,Result.andThen_ok,Sem.run_pure,hcells,hzero,hfill,A04]
  ·rw [G4 _ rfl]
   have hL':=D.repL_ext hext es _ hL
   have hat:cellsAt (w.alloc (.cells cells' e)) w.heap.size 0 cells'.toList:=fun j v hj=>by
    rw [Nat.zero_add,cell_of_row _ w.heap.size j cells' e (0,0) (heap_alloc_new w _)]
    simpa using hj
   refine⟨⟨some ⟨w.heap.size,0,none⟩,n,by rw [hel],by omega,by have:n≤n*sz:=Nat.le_mul_of_pos_right _ h0;omega,.inr ⟨w.heap.size,0,rfl,.inr rfl,D.szs_spec hsz,D.repE_of_repL es _ _ _ hL' (D.szs_spec hsz) hat⟩⟩,.inr rfl⟩
-- parts of tuples, lengths
theorem OpJ.extract {vs:List V} {k:Nat} {v:V} (hk:vs[k]? = some v) (hnt:v.isTop=false) (hN:d<B.N) (hx:Opd x (.tup vs) nt) :
  OpJ P B ops ⟨some d,.extract x k,ty,pos,af,none⟩ { nt,wt:=[(d,v)] } :=
 OpJ.pure rfl rfl hN fun env ob a w σ Z sm hne=>by
  obtain⟨cs,h1,h2⟩:=hx B env ob a w σ Z sm hne
  have:∀ (k:Nat) (cs:List Value) (vs:List V),RepVs ob σ Z w cs vs→vs[k]? = some v→∃ c,cs[k]? = some c∧RepV ob σ Z w c v:=by
   intro k
   induction k with
   | zero =>
    intro cs vs h hk
    cases vs with
    | nil=>simp at hk
    | cons x xs =>
     cases cs with
     | nil=>exact h.elim
     | cons c cs=>simp at hk;subst hk;exact⟨c,rfl,h.1⟩
   | succ k ih =>
    intro cs vs h hk
    cases vs with
    | nil=>simp at hk
    | cons x xs =>
     cases cs with
     | nil=>exact h.elim
     | cons c cs =>
      obtain⟨c',g1,g2⟩:=ih cs xs h.2 (by simpa using hk)
      exact⟨c',by simpa using g1,g2⟩
  obtain⟨c,g1,g2⟩:=this k cs vs h2 hk
  exact⟨c,by simp [execOp,h1,Instr.extract,g1],RepT.of g2 hnt⟩
theorem OpJ.lenD {t e:TypeId} {sz:Nat} {es:List D} (hu:P.underlying t=some (.slice e)) (hN:d<B.N) (hx:Opd x (.d (.list sz es)) nt) :
  OpJ P B ops ⟨some d,.call { callee:=.builtin .len,args:=#[x],argTypes:=#[t] },ty,pos,af,none⟩ { nt,wt:=[(d,.d (.int .i64 es.length))] } :=
 OpJ.pure rfl rfl hN fun env ob a w σ Z sm hne=>by
  obtain⟨ad,c,hv,_⟩:=A3r (hx B env ob a w σ Z sm hne)
  exact⟨.int .i64 es.length,by simp [execOp,resolve,invoke,builtin,hv,Builtin.len_,run_underlying hu,goInt],Q9 _ _⟩
theorem OpJ.lenN {t e:TypeId} (hu:P.underlying t=some (.slice e)) (hN:d<B.N) (hx:Opd x .nils nt) :
  OpJ P B ops ⟨some d,.call { callee:=.builtin .len,args:=#[x],argTypes:=#[t] },ty,pos,af,none⟩ { nt,wt:=[(d,.d (.int .i64 0))] } :=
 OpJ.pure rfl rfl hN fun env ob a w σ Z sm hne=>by
  have hv:=B0n (hx B env ob a w σ Z sm hne)
  exact⟨.int .i64 0,by simp [execOp,resolve,invoke,builtin,hv,Builtin.len_,run_underlying hu,goInt],Q9 _ _⟩
theorem OpJ.lenS {t e:TypeId} {nm sz off len:Nat} {obj:Ob} (hu:P.underlying t=some (.slice e)) (hN:d<B.N) (hx:Opd x (.sref nm sz off len) nt) :
  OpJ P B ops ⟨some d,.call { callee:=.builtin .len,args:=#[x],argTypes:=#[t] },ty,pos,af,none⟩ { nt,no:=[(nm,obj)],wt:=[(d,.d (.int .i64 len))] } :=
 OpJ.run rfl rfl hN rfl fun env ob a w σ Z sm hne=>by
  have hl:live ob nm:=⟨obj,hne.2.1 (nm,obj) (by simp)⟩
  obtain⟨ad,c,hv,_⟩:=A4p (hx B env ob a w σ Z sm hne.1) hl
  exact⟨.int .i64 len,w,σ,Z,by simp [execOp,resolve,invoke,builtin,hv,Builtin.len_,run_underlying hu,goInt],by rw [G4 _ rfl];exact sm,Q9 _ _⟩
theorem B6i (s:List UInt8):(ByteArray.mk s.toArray).size=s.length:=rfl
theorem OpJ.lenStr {t:TypeId} {s:List UInt8} (hu:P.underlying t=some .string) (hN:d<B.N) (hx:Opd x (.d (.str s)) nt) :
  OpJ P B ops ⟨some d,.call { callee:=.builtin .len,args:=#[x],argTypes:=#[t] },ty,pos,af,none⟩ { nt,wt:=[(d,.d (.int .i64 s.length))] } :=
 OpJ.pure rfl rfl hN fun env ob a w σ Z sm hne=>by
  have hv:=A7v (hx B env ob a w σ Z sm hne)
  exact⟨.int .i64 s.length,by simp [execOp,resolve,invoke,builtin,hv,Builtin.len_,run_underlying hu,goInt,B6i],Q9 _ _⟩
def minI (m n:Int):Int:=if n<m then n else m
def maxI (m n:Int):Int:=if n > m then n else m
theorem OpJ.min {t t':TypeId} {k:IntKind} {m n:Int} (hN:d<B.N) (hx:Opd x (.d (.int k m)) nt) (hy:Opd y (.d (.int k n)) nt') :
  OpJ P B ops ⟨some d,.call { callee:=.builtin .min,args:=#[x,y],argTypes:=#[t,t'] },ty,pos,af,none⟩ { nt:=nt++nt',wt:=[(d,.d (.int k (minI m n)))] } :=
 OpJ.pure rfl rfl hN fun env ob a w σ Z sm hne=>by
  obtain⟨h1,h2⟩:=E7 hne
  exact⟨.int k (minI m n),by simp [execOp,resolve,invoke,builtin,K9 (hx B env ob a w σ Z sm h1),K9 (hy B env ob a w σ Z sm h2),Builtin.min_,Builtin.min2,minI],Q9 _ _⟩
theorem OpJ.max {t t':TypeId} {k:IntKind} {m n:Int} (hN:d<B.N) (hx:Opd x (.d (.int k m)) nt) (hy:Opd y (.d (.int k n)) nt') :
  OpJ P B ops ⟨some d,.call { callee:=.builtin .max,args:=#[x,y],argTypes:=#[t,t'] },ty,pos,af,none⟩ { nt:=nt++nt',wt:=[(d,.d (.int k (maxI m n)))] } :=
 OpJ.pure rfl rfl hN fun env ob a w σ Z sm hne=>by
  obtain⟨h1,h2⟩:=E7 hne
  exact⟨.int k (maxI m n),by simp [execOp,resolve,invoke,builtin,K9 (hx B env ob a w σ Z sm h1),K9 (hy B env ob a w σ Z sm h2),Builtin.max_,Builtin.max2,maxI],Q9 _ _⟩
theorem OpJ.nilP {nm off:Nat} {p:List Nat} {obj:Ob} (hN:d<B.N) (hx:Opd x (.ptr nm off p) nt) :
  OpJ P B ops ⟨some d,.nilCheck x,ty,pos,af,none⟩ { nt,no:=[(nm,obj)],wt:=[(d,.ptr nm off p)] } :=
 OpJ.run rfl rfl hN rfl fun env ob a w σ Z sm hne=>by
  have hl:live ob nm:=⟨obj,hne.2.1 (nm,obj) (by simp)⟩
  have hr:=hx B env ob a w σ Z sm hne.1
  obtain⟨b,hb,hv⟩:=A1l hr hl
  exact⟨a.eval x,w,σ,Z,by simp [execOp,hv],by rw [G4 _ rfl];exact sm,by rw [G4 _ rfl];exact hr⟩
theorem OpJ.nilD {e:D} (hN:d<B.N) (hx:Opd x (.dptr e) nt) :
  OpJ P B ops ⟨some d,.nilCheck x,ty,pos,af,none⟩ { nt,wt:=[(d,.dptr e)] } :=
 OpJ.pure rfl rfl hN fun env ob a w σ Z sm hne=>by
  have hr:=hx B env ob a w σ Z sm hne
  obtain⟨b,o,xs,hv,_⟩:=A8d hr
  exact⟨a.eval x,by simp [execOp,hv],hr⟩
end
end Go.Vc
