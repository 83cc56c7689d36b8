/- Part of the proof that 'TopFrames' holds of every input: no condition. -/
import Derived.Test.YtalojkjpjdcibaaGreatDoorXAA
import Derived.Laws.MakeOwn
namespace Go.Vc
open Go
variable {P:Program} {B:D5} {ops:Array Oper}
mutual
inductive Co:V->D->Prop
 | d (x:D):Co (.d x) x
 | nils (sz:Nat):Co .nils (.list sz [])
 | st {fs:List V} {ds:List D}:CoL fs ds->Co (.st fs) (.st ds)
inductive CoL:List V->List D->Prop
 | nil:CoL [] []
 | cons {f:V} {d:D} {fs:List V} {ds:List D}:Co f d->CoL fs ds->CoL (f :: fs) (d :: ds)
end
section
variable {ob:Obs} {σ:Nat->Option Nat} {Z:Nat->Prop} {w:World}
mutual
theorem Co.rep:∀ {x:V} {y:D} {cs:List Value},Co x y->V.rep ob σ Z w x cs->D.rep Z w y cs
 | _,_,_,.d _,h=>h
 | _,_,_,.nils sz,h=>by cases h;exact⟨none,0,rfl,Nat.le_refl _,by omega,.inl rfl⟩
 | _,_,_,.st hl,h=>CoL.rep hl h
theorem CoL.rep:∀ {xs:List V} {ys:List D} {cs:List Value},CoL xs ys->V.repS ob σ Z w xs cs->D.repL Z w ys cs
 | _,_,_,.nil,h=>h
 | _,_,_,.cons h1 h2,h=>by
  obtain⟨c1,c2,e,_,_,g1,g2⟩:=h;exact⟨c1,c2,e,h1.rep g1,h2.rep g2⟩
end
variable {y:D} {x:V}
theorem Co.agg (h:Co x y):x.isAgg=y.isAgg:=by cases h<;>rfl
theorem Co.repV {v:Value} (h:Co x y) (hr:F3 ob σ Z w v x):F3 ob σ Z w v (.d y):=by
 unfold F3 at *;have e:(V.d y).isAgg=x.isAgg:=h.agg.symm;rw [e]
 by_cases hx:x.isAgg=true
 ·rw [if_pos hx] at hr ⊢;obtain⟨cs,h1,h2⟩:=hr;exact⟨cs,h1,h.rep h2⟩
 ·rw [if_neg hx] at hr ⊢;refine⟨h.rep hr.1,.inr ?_⟩;rcases hr.2 with h2 | h2
  ·subst h2;cases h
  ·exact h2
theorem Co.notTup (h:Co x y):x.isTop=false:=by cases h<;>rfl
theorem Co.repT {v:Value} (h:Co x y) (hr:D0 ob σ Z w v x):D0 ob σ Z w v (.d y):=D0.of (h.repV (hr.to h.notTup)) rfl
end
theorem Opd.co {x:Operand} {v:V} {y:D} {nt:List (Nat×V)} (h:Co v y) (hx:Opd x v nt):Opd x (.d y) nt:=λB env ob a w σ Z s hn=>h.repT (hx B env ob a w σ Z s hn)
mutual
def D.enc:D->List Value
 | .bool b=>[.bool b]
 | .int k n=>[.int k n]
 | .str s=>[.string ⟨s.toArray⟩]
 | .st fs=>D.encL fs
 | .arr _ _ es=>D.encL es
 | .list _ _=>[.slice none 0 0]
 | .imap _=>[.map none]
def D.encL:List D->List Value
 | []=>[]
 | f :: fs=>D.enc f++D.encL fs
end
mutual
def D.plain:D->Bool
 | .st fs=>D.plainL fs
 | .arr n sz es=>Nat.beq es.length n&&D.plainL es&&D.szs sz es
 | .list _ es=>es.isEmpty
 | .imap _=>false
 | _=>true
def D.plainL:List D->Bool
 | []=>true
 | f :: fs=>D.plain f&&D.plainL fs
def D.szs:Nat->List D->Bool
 | _,[]=>true
 | sz,f :: fs=>Nat.beq f.sz sz&&D.szs sz fs
end
theorem D.szs_spec {sz:Nat}:∀ {es:List D},D.szs sz es=true->∀ e∈es,e.sz=sz
 | [],_,_,h=>by cases h
 | x :: es,h,e,he=>by
  simp only [D.szs,Bool.and_eq_true] at h;rcases List.mem_cons.1 he with he | he
  ·subst he;exact Nat.eq_of_beq_eq_true h.1
  ·exact D.szs_spec h.2 e he
mutual
theorem D.rep_enc {Z:Nat->Prop} {w:World}:∀ (x:D),x.plain=true->D.rep Z w x x.enc
 | .bool _,_=>rfl
 | .int _ _,_=>rfl
 | .str _,_=>rfl
 | .st fs,h=>D.repL_enc fs h
 | .arr n sz es,h=>by
  simp only [D.plain,Bool.and_eq_true] at h;exact⟨Nat.eq_of_beq_eq_true h.1.1,D.szs_spec h.2,D.repL_enc es h.1.2⟩
 | .list _ es,h=>by
  have:es=[]:=by simpa [D.plain] using h
  subst this;exact⟨none,0,rfl,Nat.le_refl _,by omega,.inl rfl⟩
 | .imap _,h=>by cases h
theorem D.repL_enc {Z:Nat->Prop} {w:World}:∀ (xs:List D),D.plainL xs=true->D.repL Z w xs (D.encL xs)
 | [],_=>rfl
 | x :: xs,h=>by
  simp only [D.plainL,Bool.and_eq_true] at h;exact⟨_,_,rfl,D.rep_enc x h.1,D.repL_enc xs h.2⟩
end
mutual
/-- a zero: data, or nil, or a struct of them -/
def V.enc:V->List Value
 | .d x=>x.enc
 | .nils=>[.slice none 0 0]
 | .st fs=>V.encL fs
 | .cst v=>[v]
 | _=>[]
def V.encL:List V->List Value
 | []=>[]
 | f :: fs=>V.enc f++V.encL fs
end
mutual
def V.plain:V->Bool
 | .d x=>x.plain
 | .nils=>true
 | .st fs=>V.plainL fs
 | .cst v=>v.oneCell'
 | _=>false
def V.plainL:List V->Bool
 | []=>true
 | f :: fs=>V.plain f&&V.plainL fs
end
mutual
theorem V.rep_enc {ob:Obs} {σ:Nat->Option Nat} {Z:Nat->Prop} {w:World}:∀ (x:V),x.plain=true->V.rep ob σ Z w x x.enc∧x.enc.length=x.sz∧∀ u∈x.enc,u.oneCell'=true
 | .d x,h=>by
  have h1:=D.rep_enc (Z:=Z) (w:=w) x h;exact⟨h1,D.rep_len x _ h1,D.rep_one x _ h1⟩
 | .nils,_=>by simp [V.rep,V.enc,V.sz,Value.oneCell']
 | .st fs,h=>V.repS_enc fs h
 | .junk,h=>by simp [V.plain] at h
 | .ptr ..,h=>by simp [V.plain] at h
 | .dptr _,h=>by simp [V.plain] at h
 | .sref ..,h=>by simp [V.plain] at h
 | .func ..,h=>by simp [V.plain] at h
 | .tup _,h=>by simp [V.plain] at h
 | .opt ..,h=>by simp [V.plain] at h
 | .mref _,h=>by simp [V.plain] at h
 | .full ..,h=>by simp [V.plain] at h
 | .cst v,h=>⟨⟨rfl,h⟩,rfl,λu hu=>by simp [V.enc] at hu;subst hu;exact h⟩
 | .sat _,h=>by simp [V.plain] at h
theorem V.repS_enc {ob:Obs} {σ:Nat->Option Nat} {Z:Nat->Prop} {w:World}:∀ (xs:List V),V.plainL xs=true->V.repS ob σ Z w xs (V.encL xs)∧(V.encL xs).length=V.szL xs∧∀ u∈V.encL xs,u.oneCell'=true
 | [],_=>by simp [V.repS,V.encL,V.szL]
 | x :: xs,h=>by
  simp only [V.plainL,Bool.and_eq_true] at h;obtain⟨h1,h2,h3⟩:=V.rep_enc (ob:=ob) (σ:=σ) (Z:=Z) (w:=w) x h.1;obtain⟨g1,g2,g3⟩:=V.repS_enc (ob:=ob) (σ:=σ) (Z:=Z) (w:=w) xs h.2;refine⟨⟨_,_,rfl,h2,h3,h1,g1⟩,by simp [V.encL,V.szL,h2,g2],λu hu => ?_⟩;rcases List.mem_append.1 hu with hu | hu
  ·exact h3 u hu
  ·exact g3 u hu
end
structure TyZ (P:Program) (t:TypeId) (z:V):Prop where
 plain:z.plain=true
 run:∀ w,(zeroValue t).run P w = .ok (D3 z.isAgg z.enc) w
theorem TyZ.cells {t:TypeId} {z:V} (h:TyZ P t z):(D3 z.isAgg z.enc).cells.toList=z.enc:=by
 obtain⟨_,h2,h3⟩:=V.rep_enc (ob:=λ_=>none) (σ:=λ_=>none) (Z:=λ_=>False) (w:=default) z h.plain;cases hz:z.isAgg with
 | true=>simp [D3,Value.cells]
 | false =>
  have:=h2.trans (V.sz_one hz)
  match hc:z.enc,this with
  | [c],_ =>
   have:c.oneCell'=true:=h3 c (by simp [hc]);cases c<;>first | rfl | simp [Value.oneCell'] at this
section
variable {d:Nat} {x y i:Operand} {ty:TypeId} {pos:String} {af:Array Edge} {nt nt':List (Nat×V)}
variable {m n:Int} {k:IntKind} {nm off:Nat} {obj:Ob} {t t':TypeId}
theorem P7 (w:World) (t:TypeId) (cs:Array Value):(newRow t cs).run P w = .ok ⟨w.heap.size,0,none⟩ (w.alloc (.cells cs t)):=by
 simp [newRow,newObj,Sem.run]
theorem OpJ.alloc {t:TypeId} {z:V} (hB:B.ok) (hz:TyZ P t z) {nm:Nat} (hnm:1000<=nm) (hN:d<B.N) :
  OpJ P B ops ⟨some d,.alloc t,ty,pos,af,none⟩ { nf:=[nm],wt:=[(d,.ptr nm 0 [])],wo:=[(nm,some (.box t z))] } :=
 OpJ.run rfl rfl hN rfl λenv ob a w σ Z sm hne=>by
  have hn:ob nm=none:=hne.2.2 nm (by simp);obtain⟨h1,h2,h3⟩:=V.rep_enc (ob:=ob) (σ:=σ) (Z:=Z) (w:=w) z hz.plain;have hc:=hz.cells;have s':=sm.newObj hB hn hnm (o:=.box t z) (c:=.cells (D3 z.isAgg z.enc).cells t) λob' σ' m hs=>⟨w.heap.size,_,hs,heap_alloc_new w _,by rw [hc];exact h3,by rw [<- Array.length_toList,hc];exact h2,by rw [hc];exact V.rep_move m z _ h1⟩;refine⟨.pointer (some ⟨w.heap.size,0,none⟩),_,_,_,?_,by rw [F1 _ rfl];exact s',by rw [F1 _ rfl];exact Ev (by rw [C1];simp) (by simp [G3])⟩;simp only [execOp,Instr.alloc,Sem.run_bind,hz.run,Result.andThen_ok,newVar,P7,Sem.run_pure]
theorem OpJ.box {t:TypeId} {v:V} (hB:B.ok) {nm:Nat} (hnm:1000<=nm) (hj:v ≠ .junk) (hnt:v.isTop=false) (hN:d<B.N) (hx:Opd x v nt) :
  OpJ P B ops ⟨some d,.box t x,ty,pos,af,none⟩ { nt,nf:=[nm],wt:=[(d,.ptr nm 0 [])],wo:=[(nm,some (.box t v))] } :=
 OpJ.run rfl rfl hN rfl λenv ob a w σ Z sm hne=>by
  have hn:ob nm=none:=hne.2.2 nm (by simp);obtain⟨h1,h2,h3⟩:=(D0.to (hx B env ob a w σ Z sm hne.1) hnt).full hj;have s':=sm.newObj hB hn hnm (o:=.box t v) (c:=.cells (a.eval x).cells t) λob' σ' m hs=>⟨w.heap.size,_,hs,heap_alloc_new w _,h3,h2,V.rep_move m v _ h1⟩;refine⟨.pointer (some ⟨w.heap.size,0,none⟩),_,_,_,?_,by rw [F1 _ rfl];exact s',by rw [F1 _ rfl];exact Ev (by rw [C1];simp) (by simp [G3])⟩;simp only [execOp,Instr.box,Sem.run_bind,newVar,P7,Result.andThen_ok,Sem.run_pure]
theorem Pg:∀ (l:List Value) (k off:Nat) (cs:Array Value),off+k+l.length<=cs.size ->
  ((l.zipIdx k).foldl (λ(cs:Array Value) (p:Value×Nat)=>cs.setIfInBounds (off+p.2) p.1) cs).toList=cs.toList.take (off+k)++l++cs.toList.drop (off+k+l.length)
 | [],k,off,cs,_=>by simp
 | v :: l,k,off,cs,h=>by
  simp only [List.zipIdx_cons,List.foldl_cons];simp only [List.length_cons] at h;rw [Pg l (k+1) off _ (by simp;omega)];have hlt:off+k<cs.toList.length:=by simp;omega
  simp only [Array.toList_setIfInBounds,List.length_cons,<- Nat.add_assoc];rw [List.drop_set_of_lt (by omega),List.take_add_one];rw [List.take_set_of_le (Nat.le_refl _)];rw [List.getElem?_set_self hlt];simp only [Option.toList_some,List.append_assoc,List.cons_append,List.nil_append];rw [show off+k+l.length+1=off+k+1+l.length from by omega]
theorem A3r {place:Nat->Option (Nat×Nat)} {cells:Array Value} {k off size:Nat} {v:Value} {rest:List (Nat×Value)} (hp:place k=some (off,size)) (hs:v.cells.size=size) (hfit:off+size<=cells.size) :
  ∃ cells':Array Value,cells'.toList=cells.toList.take off++v.cells.toList++cells.toList.drop (off+size)∧Instr.fill place cells ((k,v) :: rest)=Instr.fill place cells' rest:=by
 refine⟨v.cells.zipIdx.foldl (λcs p=>cs.setIfInBounds (off+p.2) p.1) cells,?_,?_⟩
 ·rw [<- Array.foldl_toList,Array.toList_zipIdx];have:=Pg v.cells.toList 0 off cells (by simpa [hs] using hfit);simpa [hs] using this
 ·simp only [Instr.fill,hp];rw [if_neg];simp [hs];omega
inductive Ki:List (Nat×Operand)->List (Nat×V)->List (Nat×V)->Prop
 | nil:Ki [] [] []
 | cons {i:Nat} {x:Operand} {v:V} {nt nt':List (Nat×V)} {xs:List (Nat×Operand)} {vs:List (Nat×V)}:Opd x v nt->Ki xs vs nt'->Ki ((i,x) :: xs) ((i,v) :: vs) (nt++nt')
def R2 (places:List (Nat×Nat)):List V->List (Nat×V)->Bool
 | _,[]=>true
 | cur,(i,x) :: ps=>match cur[i]? with
  | none=>false
  | some f=>Nat.beq x.sz f.sz&&(match places[i]? with | some (o,n)=>Nat.beq o (V.szL (cur.take i))&&Nat.beq n f.sz | none=>false) &&
   (match x with | .junk=>false | x => !x.isTop)&&R2 places (cur.set i x) ps
def Q3:List V->List (Nat×V)->List V
 | cur,[]=>cur
 | cur,(i,x) :: ps=>Q3 (cur.set i x) ps
theorem V6 {places:List (Nat×Nat)} {ob:Obs} {σ:Nat->Option Nat} {Z:Nat->Prop} {w:World} {B:D5} {env:Env} {a:Act} (sm:Sim B env ob a w σ Z) :
  ∀ {xs:List (Nat×Operand)} {vs nt:List (Nat×V)},Ki xs vs nt->(∀ p∈nt,env p.1=some p.2)->∀ {cur:List V} {cells:Array Value},R2 places cur vs=true->V.repS ob σ Z w cur cells.toList->cells.size=V.szL cur->(∀ u∈cells.toList,u.oneCell'=true) ->
   ∃ cells',Instr.fill (λi=>places[i]?) cells (xs.map λp=>(p.1,a.eval p.2))=some cells'∧V.repS ob σ Z w (Q3 cur vs) cells'.toList∧(∀ u∈cells'.toList,u.oneCell'=true)
 | _,_,_,.nil,_,cur,cells,_,hr,_,h1=>⟨cells,rfl,hr,h1⟩
 | _,_,_,@Ki.cons i x v nt nt' xs vs hx hxs,hn,cur,cells,hok,hr,hsz,h1=>by
  obtain⟨hn1,hn2⟩:=B4 hn;simp only [R2] at hok;cases hc:cur[i]? with
  | none=>simp [hc] at hok
  | some f =>
   simp only [hc,Bool.and_eq_true] at hok;obtain⟨⟨⟨hsz',hpl⟩,hnj⟩,hrest⟩:=hok;have hvs:=Nat.eq_of_beq_eq_true hsz';have hj:v ≠ .junk:=by rintro rfl;simp at hnj
   have hnt:v.isTop=false:=by cases v<;>simp_all [V.isTop]
   cases hp:places[i]? with
   | none=>simp [hp] at hpl
   | some q =>
    obtain⟨o,n⟩:=q;simp only [hp,Bool.and_eq_true] at hpl;have ho:=Nat.eq_of_beq_eq_true hpl.1;have hn':=Nat.eq_of_beq_eq_true hpl.2;obtain⟨g1,g2,g3⟩:=(D0.to (hx B env ob a w σ Z sm hn1) hnt).full hj;obtain⟨c1,c2,c3,e1,e2,e3,e4,e5⟩:=Y8 hr hc;have hlen:cells.size=c1.length+c2.length+c3.length:=by rw [<- Array.length_toList,e1];simp [Nat.add_assoc]
    obtain⟨cells',k1,k2⟩:=A3r (place:=λi=>places[i]?) (cells:=cells) (k:=i) (v:=a.eval x) (rest:=xs.map λp=>(p.1,a.eval p.2)) hp (by omega) (by omega);have k1':cells'.toList=c1++(a.eval x).cells.toList++c3:=by
     rw [k1,e1,show o=c1.length from by omega,show n=c2.length from by omega,List.append_assoc c1 c2 c3,List.take_left,List.drop_length_add_append,List.drop_left]
    have hnew:=e5 v (a.eval x).cells.toList (by rw [Array.length_toList];omega) hvs g3 g1;obtain⟨cells'',m1,m2,m3⟩:=V6 sm hxs hn2 (cur:=cur.set i v) (cells:=cells') hrest (by rw [k1'];exact hnew) (by
     rw [A1n hc hvs,<- hsz,hlen,<- Array.length_toList,k1'];simp;omega) (λu hu=>by
     rw [k1'] at hu;simp only [List.mem_append] at hu;rcases hu with (hu | hu) | hu
     ·exact h1 u (by rw [e1];simp [hu])
     ·exact g3 u hu
     ·exact h1 u (by rw [e1];simp [hu]))
    exact⟨cells'',by rw [List.map_cons,k2];exact m1,m2,m3⟩
structure TyF (P:Program) (t:TypeId) (fs:Array Field) (places:List (Nat×Nat)):Prop where
 und:P.underlying t=some (.struct fs)
 run:∀ w,(fs.mapM λf=>do pure (f.offset,<- sizeOf f.type):Sem (Array (Nat×Nat))).run P w = .ok places.toArray w
theorem OpJ.build {t:TypeId} {fs:Array Field} {places:List (Nat×Nat)} {zs:List V} (hf:TyF P t fs places) (hz:TyZ P t (.st zs)) {parts:List (Nat×Operand)} {vs:List (Nat×V)} {nt:List (Nat×V)} (hx:Ki parts vs nt)
  (hok:R2 places zs vs=true) {r:V} (hr:r = .st (Q3 zs vs)) (hN:d<B.N) :
  OpJ P B ops ⟨some d,.build t parts.toArray,ty,pos,af,none⟩ { nt,wt:=[(d,r)] } :=
 OpJ.pure rfl rfl hN λenv ob a w σ Z sm hne=>by
  obtain⟨h1,h2,h3⟩:=V.rep_enc (ob:=ob) (σ:=σ) (Z:=Z) (w:=w) (.st zs) hz.plain;have hc:(D3 (V.st zs).isAgg (V.st zs).enc).cells=(V.st zs).enc.toArray:=by simp [D3,V.isAgg,Value.cells]
  obtain⟨cells',k1,k2,_⟩:=V6 sm hx hne (cells:=(V.st zs).enc.toArray) hok h1 h2 h3;have hagg:F3 ob σ Z w (.agg cells') (.st (Q3 zs vs)):=by
   unfold F3;rw [if_pos (show V.isAgg (.st (Q3 zs vs))=true from rfl)];exact⟨cells'.toList,by simp,k2⟩
  refine⟨.agg cells',?_,by subst hr;exact D0.of hagg rfl⟩;have hmap:(parts.toArray.map λp=>(p.1,a.eval p.2)).toList=parts.map λp=>(p.1,a.eval p.2):=by simp
  have hpl:(λ(i:Nat)=>places.toArray[i]?)=λ(i:Nat)=>places[i]? :=by funext i;simp
  simp only [execOp,Instr.build,Sem.run_bind,hz.run,Result.andThen_ok,run_underlying hf.und,hf.run,hc,hpl,hmap,k1,Sem.run_pure]
theorem H4 {Z:Nat->Prop} {w:World} {z:D} (h:z.plain=true):∀ n,D.repL Z w (List.replicate n z) (List.replicate n z.enc).flatten
 | 0=>by simp [D.repL]
 | n+1=>by
  rw [List.replicate_succ,List.replicate_succ,List.flatten_cons];exact⟨_,_,rfl,D.rep_enc z h,H4 h n⟩
theorem Fw {ob:Obs} {σ:Nat->Option Nat} {Z:Nat->Prop} {w:World}:∀ {es:List D} {cs:List Value},V.repS ob σ Z w (es.map .d) cs->D.repL Z w es cs
 | [],_,h=>h
 | e :: es,cs,h=>by
  obtain⟨c1,c2,h1,_,_,h4,h5⟩:=h;exact⟨c1,c2,h1,h4,Fw h5⟩
theorem I6 (z:List Value) (hz:0<z.length):∀ n,((List.range (n*z.length)).map λi=>z.toArray[i % z.toArray.size]!)=(List.replicate n z).flatten
 | 0=>by simp
 | n+1=>by
  rw [List.replicate_succ',List.flatten_append,<- I6 z hz n,Nat.succ_mul,List.range_add,List.map_append,List.map_map];congr 1;simp only [List.flatten_cons,List.flatten_nil,List.append_nil];refine List.ext_getElem (by simp) λk h1 h2 => ?_;have hk:k<z.length:=h2;simp only [List.getElem_map,List.getElem_range,Function.comp,List.size_toArray];rw [show(n*z.length+k) % z.length=k from by rw [Nat.add_comm,Nat.add_mul_mod_self_right,Nat.mod_eq_of_lt hk]];simp [hk]
theorem OpJ.buildSlice {t e:TypeId} {sz:Nat} {ag:Bool} {z:D} (hu:P.underlying t=some (.slice e)) (ht:TyS P e sz ag) (hz:TyZ P e (.d z)) (hzs:z.sz=sz) (h0:0<sz) {n:Nat} (hn24:n*sz<=16777216)
  {parts:List (Nat×Operand)} {vs:List (Nat×V)} {nt:List (Nat×V)} (hx:Ki parts vs nt) (hok:R2 ((List.range n).map λi=>(i*sz,sz)) (List.replicate n (.d z)) vs=true)
  {es:List D} (hes:es.map V.d=Q3 (List.replicate n (.d z)) vs) (hel:es.length=n) (hsz:D.szs sz es=true) (hpn:∀ p∈parts,p.1<n) (hN:d<B.N) :
  OpJ P B ops ⟨some d,.buildSlice t n parts.toArray,ty,pos,af,none⟩ { nt,wt:=[(d,.d (.list sz es))] } :=
 OpJ.run rfl rfl hN rfl λenv ob a w σ Z sm hne=>by
  have hzp:z.plain=true:=hz.plain;have hrep:=D.rep_enc (Z:=Z) (w:=w) z hzp;have hzl:=D.rep_len z _ hrep;have hcells:(D3 (V.d z).isAgg (V.d z).enc).cells=z.enc.toArray:=by
   have:=hz.cells;rw [<- Array.toArray_toList (xs:=(D3 (V.d z).isAgg (V.d z).enc).cells),this];rfl
  have hzr:=H4 (Z:=Z) (w:=w) hzp n;have hV:V.repS ob σ Z w (List.replicate n (.d z)) (List.replicate n z.enc).flatten:=by
   have:=V5 (ob:=ob) (σ:=σ) hzr;simpa using this
  have hone:∀ u∈(List.replicate n z.enc).flatten,u.oneCell'=true:=D.repL_one _ _ hzr;obtain⟨cells',k1,k2,k3⟩:=V6 sm hx hne.1 (cells:=(List.replicate n z.enc).flatten.toArray) hok (by simpa using hV) (by
   have:=D.repL_len _ _ hzr;rw [List.size_toArray,this];rw [<- N2];simp) (by simpa using hone)
  rw [<- hes] at k2;have hL:=Fw k2;have hlen:cells'.size=n*sz:=by
   have:=D.repL_len _ _ hL;rw [D.szL_all es (D.szs_spec hsz),hel] at this;rw [<- Array.length_toList];exact this
  have s1:=sm.allocZ (.cells cells' e);have hext:Ext Z (λb=>Z b∨b=w.heap.size) w (w.alloc (.cells cells' e)):=⟨λ_ h => .inl h,λb h=>Go.RowKit.Below.heap_alloc w _ b (sm.zlt b h)⟩;refine⟨.slice (some ⟨w.heap.size,0,none⟩) n n,_,σ,_,?_,by rw [C9 _ rfl];exact s1,?_⟩
  ·have hmap:(parts.toArray.map λp=>(p.1,a.eval p.2)).toList=parts.map λp=>(p.1,a.eval p.2):=by simp
   have hpl:∀ (l:List (Nat×Value)),(∀ p∈l,p.1<n)->∀ (c:Array Value),Instr.fill (λi=>some (i*sz,sz)) c l=Instr.fill (λi=>((List.range n).map λi=>(i*sz,sz))[i]?) c l:=by
    intro l;induction l with
    | nil=>intro _ c;rfl
    | cons p l ih =>
     intro hp c;obtain⟨k,v⟩:=p;have hk:k<n:=hp (k,v) (by simp);have hk2:((List.range n).map λi=>(i*sz,sz))[k]? = some (k*sz,sz):=by simp [List.getElem?_map,List.getElem?_range hk]
     simp only [Instr.fill,hk2];split
     ·rfl
     ·exact ih (λp hp'=>hp p (by simp [hp'])) _
   have h1:(parts.map λp=>(p.1,a.eval p.2)).all (λp=>decide (p.1<n))=true:=by
    rw [List.all_eq_true];intro q hq;obtain⟨p,hp,rfl⟩:=List.mem_map.1 hq;simpa using hpn p hp
   have hfill:=hpl (parts.map λp=>(p.1,a.eval p.2)) (λp hp=>by simpa using List.all_eq_true.1 h1 p hp) ((List.replicate n z.enc).flatten.toArray);rw [k1] at hfill;have hzero:((Array.range (n*sz)).map λi=>z.enc.toArray[i % z.enc.toArray.size]!)=(List.replicate n z.enc).flatten.toArray:=by
    have:=I6 z.enc (by omega) n;rw [<- this,hzl,hzs];apply Array.toList_inj.1;simp
   by_cases hnz:n*sz=0
   ·have hn0:n=0:=by rcases Nat.mul_eq_zero.1 hnz with h | h<;>omega
    subst hn0;have hnil:parts=[]:=by
     cases parts with
     | nil=>rfl
     | cons p _=>have:=hpn p (by simp);omega
    subst hnil;have hc':cells' = #[]:=by simpa [Instr.fill] using k1.symm
    have hr0:(Array.map (λ_=>(default:Value)) (Array.range 0)) = #[]:=by apply Array.toList_inj.1;simp
    simp [execOp,Instr.buildSlice,run_underlying hu,ht.run_size,hc',Instr.fill,P7,hr0]
   ·simp only [execOp,Instr.buildSlice,Sem.run_bind,run_underlying hu,Result.andThen_ok,ht.run_size,Sem.run_pure,hmap];rw [if_neg (show ¬ n*sz > 2 ^ 24 from by omega),if_neg hnz];simp only [Sem.run_bind,hz.run,Result.andThen_ok,Sem.run_pure,hcells,hzero,hfill,P7]
  ·rw [C9 _ rfl];have hL':=D.repL_ext hext es _ hL;have hat:G6 (w.alloc (.cells cells' e)) w.heap.size 0 cells'.toList:=λj v hj=>by
    rw [Nat.zero_add,cell_of_row _ w.heap.size j cells' e (0,0) (heap_alloc_new w _)];simpa using hj
   refine⟨⟨some ⟨w.heap.size,0,none⟩,n,by rw [hel],by omega,by have:n<=n*sz:=Nat.le_mul_of_pos_right _ h0;omega,.inr ⟨w.heap.size,0,rfl,.inr rfl,D.szs_spec hsz,D.repE_of_repL es _ _ _ hL' (D.szs_spec hsz) hat⟩⟩,.inr rfl⟩
theorem OpJ.extract {vs:List V} {k:Nat} {v:V} (hk:vs[k]? = some v) (hnt:v.isTop=false) (hN:d<B.N) (hx:Opd x (.tup vs) nt) :
  OpJ P B ops ⟨some d,.extract x k,ty,pos,af,none⟩ { nt,wt:=[(d,v)] } :=
 OpJ.pure rfl rfl hN λenv ob a w σ Z sm hne=>by
  obtain⟨cs,h1,h2⟩:=hx B env ob a w σ Z sm hne;have:∀ (k:Nat) (cs:List Value) (vs:List V),J8 ob σ Z w cs vs->vs[k]? = some v->∃ c,cs[k]? = some c∧F3 ob σ Z w c v:=by
   intro k;induction k with
   | zero =>
    intro cs vs h hk;cases vs with
    | nil=>simp at hk
    | cons x xs =>
     cases cs with
     | nil=>exact h.elim
     | cons c cs=>simp at hk;subst hk;exact⟨c,rfl,h.1⟩
   | succ k ih =>
    intro cs vs h hk;cases vs with
    | nil=>simp at hk
    | cons x xs =>
     cases cs with
     | nil=>exact h.elim
     | cons c cs =>
      obtain⟨c',g1,g2⟩:=ih cs xs h.2 (by simpa using hk);exact⟨c',by simpa using g1,g2⟩
  obtain⟨c,g1,g2⟩:=this k cs vs h2 hk;exact⟨c,by simp [execOp,h1,Instr.extract,g1],D0.of g2 hnt⟩
theorem OpJ.lenD {e:TypeId} {sz:Nat} {es:List D} (hu:P.underlying t=some (.slice e)) (hN:d<B.N) (hx:Opd x (.d (.list sz es)) nt) :
  OpJ P B ops ⟨some d,.call { callee:=.builtin .len,args:=#[x],argTypes:=#[t] },ty,pos,af,none⟩ { nt,wt:=[(d,.d (.int .i64 es.length))] } :=
 OpJ.pure rfl rfl hN λenv ob a w σ Z sm hne=>by
  obtain⟨ad,c,hv,_⟩:=U0 (hx B env ob a w σ Z sm hne);exact⟨.int .i64 es.length,by simp [execOp,resolve,invoke,builtin,hv,Builtin.len_,run_underlying hu,goInt],L8 _ _⟩
theorem OpJ.lenN {e:TypeId} (hu:P.underlying t=some (.slice e)) (hN:d<B.N) (hx:Opd x .nils nt) :
  OpJ P B ops ⟨some d,.call { callee:=.builtin .len,args:=#[x],argTypes:=#[t] },ty,pos,af,none⟩ { nt,wt:=[(d,.d (.int .i64 0))] } :=
 OpJ.pure rfl rfl hN λenv ob a w σ Z sm hne=>by
  have hv:=T9 (hx B env ob a w σ Z sm hne);exact⟨.int .i64 0,by simp [execOp,resolve,invoke,builtin,hv,Builtin.len_,run_underlying hu,goInt],L8 _ _⟩
theorem OpJ.lenS {e:TypeId} {sz len:Nat} (hu:P.underlying t=some (.slice e)) (hN:d<B.N) (hx:Opd x (.sref nm sz off len) nt) :
  OpJ P B ops ⟨some d,.call { callee:=.builtin .len,args:=#[x],argTypes:=#[t] },ty,pos,af,none⟩ { nt,no:=[(nm,obj)],wt:=[(d,.d (.int .i64 len))] } :=
 OpJ.run rfl rfl hN rfl λenv ob a w σ Z sm hne=>by
  have hl:live ob nm:=⟨obj,hne.2.1 (nm,obj) (by simp)⟩;obtain⟨ad,c,hv,_⟩:=O9 (hx B env ob a w σ Z sm hne.1) hl;exact⟨.int .i64 len,w,σ,Z,by simp [execOp,resolve,invoke,builtin,hv,Builtin.len_,run_underlying hu,goInt],by rw [C9 _ rfl];exact sm,L8 _ _⟩
theorem B5a (s:List UInt8):(ByteArray.mk s.toArray).size=s.length:=rfl
theorem OpJ.lenStr {s:List UInt8} (hu:P.underlying t=some .string) (hN:d<B.N) (hx:Opd x (.d (.str s)) nt) :
  OpJ P B ops ⟨some d,.call { callee:=.builtin .len,args:=#[x],argTypes:=#[t] },ty,pos,af,none⟩ { nt,wt:=[(d,.d (.int .i64 s.length))] } :=
 OpJ.pure rfl rfl hN λenv ob a w σ Z sm hne=>by
  have hv:=P5 (hx B env ob a w σ Z sm hne);exact⟨.int .i64 s.length,by simp [execOp,resolve,invoke,builtin,hv,Builtin.len_,run_underlying hu,goInt,B5a],L8 _ _⟩
def U8 (m n:Int):Int:=if n<m then n else m
def Bb (m n:Int):Int:=if n > m then n else m
theorem OpJ.min (hN:d<B.N) (hx:Opd x (.d (.int k m)) nt) (hy:Opd y (.d (.int k n)) nt') :
  OpJ P B ops ⟨some d,.call { callee:=.builtin .min,args:=#[x,y],argTypes:=#[t,t'] },ty,pos,af,none⟩ { nt:=nt++nt',wt:=[(d,.d (.int k (U8 m n)))] } :=
 OpJ.pure rfl rfl hN λenv ob a w σ Z sm hne=>by
  obtain⟨h1,h2⟩:=B4 hne;exact⟨.int k (U8 m n),by simp [execOp,resolve,invoke,builtin,E6 (hx B env ob a w σ Z sm h1),E6 (hy B env ob a w σ Z sm h2),Builtin.min_,Builtin.min2,U8],L8 _ _⟩
theorem OpJ.max (hN:d<B.N) (hx:Opd x (.d (.int k m)) nt) (hy:Opd y (.d (.int k n)) nt') :
  OpJ P B ops ⟨some d,.call { callee:=.builtin .max,args:=#[x,y],argTypes:=#[t,t'] },ty,pos,af,none⟩ { nt:=nt++nt',wt:=[(d,.d (.int k (Bb m n)))] } :=
 OpJ.pure rfl rfl hN λenv ob a w σ Z sm hne=>by
  obtain⟨h1,h2⟩:=B4 hne;exact⟨.int k (Bb m n),by simp [execOp,resolve,invoke,builtin,E6 (hx B env ob a w σ Z sm h1),E6 (hy B env ob a w σ Z sm h2),Builtin.max_,Builtin.max2,Bb],L8 _ _⟩
theorem OpJ.nilP {p:List Nat} (hN:d<B.N) (hx:Opd x (.ptr nm off p) nt) :
  OpJ P B ops ⟨some d,.nilCheck x,ty,pos,af,none⟩ { nt,no:=[(nm,obj)],wt:=[(d,.ptr nm off p)] } :=
 OpJ.run rfl rfl hN rfl λenv ob a w σ Z sm hne=>by
  have hl:live ob nm:=⟨obj,hne.2.1 (nm,obj) (by simp)⟩;have hr:=hx B env ob a w σ Z sm hne.1;obtain⟨b,hb,hv⟩:=L5 hr hl;exact⟨a.eval x,w,σ,Z,by simp [execOp,hv],by rw [C9 _ rfl];exact sm,by rw [C9 _ rfl];exact hr⟩
theorem OpJ.nilD {e:D} (hN:d<B.N) (hx:Opd x (.dptr e) nt) :
  OpJ P B ops ⟨some d,.nilCheck x,ty,pos,af,none⟩ { nt,wt:=[(d,.dptr e)] } :=
 OpJ.pure rfl rfl hN λenv ob a w σ Z sm hne=>by
  have hr:=hx B env ob a w σ Z sm hne;obtain⟨b,o,xs,hv,_⟩:=Cs hr;exact⟨a.eval x,by simp [execOp,hv],hr⟩
end
end Go.Vc
namespace Go.Vc
open Go
variable {P:Program} {B:D5} {ops:Array Oper}
section
variable {env:Env} {ob:Obs} {a:Act} {w:World} {σ:Nat->Option Nat} {Z:Nat->Prop}
variable {nm:Nat} {g g':Option Nat} {w1:World}
theorem Sim.rowNewF (s:Sim B env ob a w σ Z) (hB:B.ok) (hn:ob nm=none) (h1000:1000<=nm) (hg:w.grownBy w1 g) (hfree:∀ m b,live ob m->σ m=some b->some b≠g) (hfb:∀ b,g=some b->¬ Z b∧(B.w0.heap.size<=b∨B.own b)) (hat:g'=g∨g'=some w.heap.size) {o:Ob} (ho:∀ ob' σ',K4 ob ob' σ σ' Z Z w w1->σ' nm=g'->o.rep ob' σ' Z w1 nm) (hF:Ag B.w0.heap.size B.own (B9 ob nm (some o)) (G3 σ nm g') Z w1) :
  Sim B env (B9 ob nm (some o)) a w1 (G3 σ nm g') Z:=by
 have hne:∀ n,used ob n->n≠nm:=λn hu e=>hu (e ▸ hn);have hold:∀ m b,live ob m->σ m=some b->w1.heap[b]? = w.heap[b]? :=λm b hm hb=>hg.block b (s.lt hm hb) (hfree m b hm hb);have hz:∀ b,Z b->w1.heap[b]? = w.heap[b]? :=λb hz=>hg.block b (s.zlt b hz) (λe=>(hfb b e.symm).1 hz);have hsz:=hg.size;have m:K4 ob (B9 ob nm (some o)) σ (G3 σ nm g') Z Z w w1:=by
  refine⟨⟨λ_ h=>h,hz⟩,λn h=>S4 h,λn hu hl => ?_,λn b hu hl hb => ?_⟩
  ·have:=hne n hu;rw [C1,if_neg this] at hl;exact⟨hl,by simp [G3,this]⟩
  ·have:=hne n hu;rw [C1,if_neg this] at hl;simp only [World.shape?,hold n b hl hb]
 have hbad:∀ p b,live ob p->σ p=some b->g'≠some b:=by
  intro p b hp hb e;rcases hat with h | h
  ·exact hfree p b hp hb (by rw [<- h,e])
  ·rw [h] at e;have:=s.lt hp hb;simp at e;omega
 refine { s with env:=?_,obj:=?_,inj:=?_,blk:=?_,zlt:=λb h=>Nat.lt_of_lt_of_le (s.zlt b h) hsz,pin:=?_,shp:=?_,size:=Nat.le_trans s.size hsz,block:=?_,os:=hg.os.trans s.os,tape:=hg.tape.trans s.tape,output:=hg.output.trans s.output,foot:=hF }
 ·intro k x hk;obtain⟨v,h1,h2⟩:=s.env k x hk;exact⟨v,h1,h2.move m⟩
 ·intro n o' hn'
  by_cases h:n=nm
  ·subst h;simp only [B9,if_true,Option.some.injEq] at hn';subst hn';exact ho _ _ m (by simp [G3])
  ·simp only [B9,if_neg h] at hn';exact Ob.rep_move m (s.obj n o' hn') (by simp [G3,h]) (λb hb=>hold n b ⟨_,hn'⟩ hb)
 ·intro p q b hp hq hpb hqb;rw [C1] at hp hq
  by_cases h1:p=nm<;>by_cases h2:q=nm
  ·rw [h1,h2]
  ·rw [if_neg h2] at hq;simp only [G3,h1,h2,if_true,if_false] at hpb hqb;exact(hbad q b hq hqb hpb).elim
  ·rw [if_neg h1] at hp;simp only [G3,h1,h2,if_true,if_false] at hpb hqb;exact(hbad p b hp hpb hqb).elim
  ·rw [if_neg h1] at hp;rw [if_neg h2] at hq;simp only [G3,h1,h2,if_false] at hpb hqb;exact s.inj p q b hp hq hpb hqb
 ·intro n b hl hb;rw [C1] at hl
  by_cases h:n=nm
  ·simp only [G3,h,if_true] at hb;rcases hat with e | e
   ·exact hfb b (by rw [<- e,hb])
   ·rw [e] at hb;simp only [Option.some.injEq] at hb;subst hb;exact⟨λh=>by have:=s.zlt _ h;omega,.inl s.size⟩
  ·rw [if_neg h] at hl;simp only [G3,h,if_false] at hb;exact s.blk n b hl hb
 ·intro n b hp hl;have h:n≠nm:=λe=>by have:=hB n b hp;omega
  rw [C1,if_neg h] at hl;simp only [G3,h,if_false];exact s.pin n b hp hl
 ·intro n b hp hl;have h:n≠nm:=λe=>by have:=hB n b hp;omega
  rw [C1,if_neg h] at hl;rw [<- s.shp n b hp hl];simp only [World.shape?,hold n b hl (s.pin n b hp hl)]
 ·intro k hk hk';rw [hg.block k (Nat.lt_of_lt_of_le hk s.size) (λe=>by
   rcases(hfb k e.symm).2 with h | h
   ·omega
   ·exact hk' h)]
  exact s.block k hk hk'
theorem Ag.grown {lo:Nat} {own:Nat->Prop} {ob0:Obs} (F:Ag lo own ob0 σ Z w) (hlt:∀ m b,live ob0 m->σ m=some b->b<w.heap.size) (hzl:∀ b,Z b->b<w.heap.size) (hn:ob nm=none) (hg:w.grownBy w1 g) (hr0:∀ n r,ob n=some (some (.reg r))->ob0 n=some (some (.reg r))) (hl0:∀ m,live ob m->live ob0 m) (hg0:∀ b,g=some b->¬ Z b∧∃ m,live ob0 m∧σ m=some b) (hfree:∀ m b,live ob m->σ m=some b->some b≠g) (hat:g'=g∨g'=some w.heap.size) {o:Ob} (hr:∀ r,o ≠ .reg r):Ag lo own (B9 ob nm (some o)) (G3 σ nm g') Z w1:=by
 have hreg:∀ n r,B9 ob nm (some o) n=some (some (.reg r))->n≠nm∧ob n=some (some (.reg r)):=λn r h=>by
  unfold B9 at h
  by_cases e:n=nm
  ·rw [if_pos e] at h;simp only [Option.some.injEq] at h;exact absurd h (hr r)
  ·rw [if_neg e] at h;exact⟨e,h⟩
 refine F.move ⟨λ_ h=>h,λb h=>hg.block b (hzl b h) λe=>(hg0 b e.symm).1 h⟩ hg.size (λn r h=>⟨hr0 n r (hreg n r h).2,by simp [G3,(hreg n r h).1]⟩) (λn b ⟨r,h⟩ hb => ?_) (λb _ hl hn'=>hg.block b hl λe => ?_) (λb h => .inl h) λm b hl hb => ?_
 ·have:=(hreg n r h).2;exact hg.block b (hlt n b ⟨_,hr0 n r this⟩ hb) (hfree n b ⟨_,this⟩ hb)
 ·obtain⟨m,h1,h2⟩:=(hg0 b e.symm).2;exact hn' m h1 h2
 ·rw [C1] at hl
  by_cases e:m=nm
  ·simp only [G3,if_pos e] at hb;rcases hat with h | h
   ·exact .inr (hg0 b (by rw [<- h,hb])).2
   ·rw [h] at hb;simp only [Option.some.injEq] at hb;left;omega
  ·rw [if_neg e] at hl;simp only [G3,if_neg e] at hb;exact .inr ⟨m,hl0 m hl,hb⟩
theorem Sim.rowNew (s:Sim B env ob a w σ Z) {ob0:Obs} (s0:Sim B env ob0 a w σ Z) (hr0:∀ n,ob n=ob0 n∨ob n=some none) (hB:B.ok) {nm:Nat} (hn:ob nm=none) (h1000:1000<=nm) {w1:World} {g g':Option Nat} (hg:w.grownBy w1 g)
  (hfree:∀ m b,live ob m->σ m=some b->some b≠g) (hg0:∀ b,g=some b->∃ m,live ob0 m∧σ m=some b) (hat:g'=g∨g'=some w.heap.size)
  {o:Ob} (ho:∀ ob' σ',K4 ob ob' σ σ' Z Z w w1->σ' nm=g'->o.rep ob' σ' Z w1 nm) (hr:∀ r,o ≠ .reg r:=by intro r h;cases h) :
  Sim B env (B9 ob nm (some o)) a w1 (G3 σ nm g') Z:=by
 have hfb:∀ b,g=some b->¬ Z b∧(B.w0.heap.size<=b∨B.own b):=λb hb=>by
  obtain⟨m,h1,h2⟩:=hg0 b hb;exact s0.blk m b h1 h2
 have h1:∀ n x,ob n=some (some x)->ob0 n=some (some x):=λn x h=>by
  rcases hr0 n with e | e
  ·rw [<- e];exact h
  ·rw [e] at h;simp at h
 exact s.rowNewF hB hn h1000 hg hfree hfb hat ho (s0.foot.grown (λm b=>s0.lt) s0.zlt hn hg (λn r=>h1 n _) (λm ⟨x,hx⟩=>⟨x,h1 m x hx⟩) (λb hb=>⟨(hfb b hb).1,hg0 b hb⟩) hfree hat hr)
theorem Sim.rowNew0 (s:Sim B env ob a w σ Z) (hB:B.ok) {nm:Nat} (hn:ob nm=none) (h1000:1000<=nm) {w1:World} {g':Option Nat} (hg:w.grownBy w1 none)
  (hat:g'=none∨g'=some w.heap.size)
  {o:Ob} (ho:∀ ob' σ',K4 ob ob' σ σ' Z Z w w1->σ' nm=g'->o.rep ob' σ' Z w1 nm) (hr:∀ r,o ≠ .reg r:=by intro r h;cases h) :
  Sim B env (B9 ob nm (some o)) a w1 (G3 σ nm g') Z :=
 s.rowNew s (λ_ => .inl rfl) hB hn h1000 hg (λ_ _ _ _ e=>by cases e) (λ_ e=>by cases e) hat ho hr
theorem Fx (ob:Obs) (n:Nat):∀ m,B9 ob n none m=ob m∨B9 ob n none m=some none:=λm=>by
 unfold B9;split
 ·exact .inr rfl
 ·exact .inl rfl
end
structure TyE (P:Program) (e sz bytes:Nat):Prop where
 info:(P.info? e).map (λi=>(i.zero.map (·.cells.size),i.size,i.bytes))=some (some sz,sz,bytes)
 pos:0<sz
theorem TyE.get {e sz bytes:Nat} (h:TyE P e sz bytes):∃ i z,P.info? e=some i∧i.zero=some z∧i.size=sz∧i.bytes=bytes∧z.cells.size=sz:=by
 have:=h.info;cases hi:P.info? e with
 | none=>simp [hi] at this
 | some i =>
  simp only [hi,Option.map_some,Option.some.injEq,Prod.mk.injEq] at this;obtain⟨h1,h2,h3⟩:=this;cases hz:i.zero with
  | none=>simp [hz] at h1
  | some z=>exact⟨i,z,rfl,hz,h2,h3,by simpa [hz] using h1⟩
section
variable {d:Nat} {x y i:Operand} {ty:TypeId} {pos:String} {af:Array Edge} {nt nt':List (Nat×V)}
variable {es ys:List D} {bytes nm t:Nat}
theorem X5 (w:World) (t ty e:TypeId) (i:TypeInfo) (ht:P.underlying t=some (.slice e)) (hi:P.info? e=some i) (a:Option Addr) (n c:Nat) (hnc:n<=c) (b:Option Addr) (c':Nat) :
  (Builtin.append_ #[t,t] ty #[.slice a n c,.slice b 0 c']).run P w = .ok (.slice a n c) w:=by
 cases a<;>cases b<;>simp [Builtin.append_,run_underlying ht,sizeOf,typeInfo,hi,Builtin.lenOf,Builtin.firstCells,hnc,storeCells,loadCells,loadCellsFrom]
theorem J6 {ob:Obs} {σ:Nat->Option Nat} {Z:Nat->Prop} {w:World} {nm e sz n:Nat} {v:Value} {xs:List Value} (hl:live ob nm) (h:w.ownsRow 0 e sz v n xs) (hs:σ nm=v.ownBlock) :
  D0 ob σ Z w v (.sref nm sz 0 n):=by
 rcases h.2 with ⟨rfl,h0⟩ | ⟨g,cap,cur,rfl,_,hh,hn,hcap,hcs,_⟩
 ·subst h0;exact⟨⟨hl.used,λ_=>⟨none,0,rfl,Nat.le_refl _,by omega,.inl ⟨hs,rfl,rfl,rfl⟩⟩⟩,.inr rfl⟩
 ·refine⟨⟨hl.used,λ_=>⟨some ⟨g,0,none⟩,cap,rfl,hn,by simpa [maxLen] using hcap,.inr ⟨g,e,hs,.inr (by simp),?_,λ_=>rfl⟩⟩⟩,.inr rfl⟩;simp [World.shape?,hh,hcs]
theorem Ct {ob:Obs} {σ:Nat->Option Nat} {Z:Nat->Prop} {w:World} {e sz:Nat} {v:Value} (h:D0 ob σ Z w v (.sref nm sz 0 es.length)) (hl:live ob nm) (ho:(Ob.row e sz es).rep ob σ Z w nm) :
  ∃ xs,w.ownsRow 0 e sz v es.length xs∧D.repL Z w es xs∧v.ownBlock=σ nm:=by
 obtain⟨a,c,hv,h1,h2,h3⟩:=O9 h hl;obtain⟨h0,h00,v',xs,g1,g2,g3,g4⟩:=ho;rcases h3 with ⟨k1,k2,_,k4⟩ | ⟨b,e',k1,k2,k3,k4⟩
 ·have:=g4 k1;subst this;cases g2;refine⟨[],?_,rfl,by rw [hv,k2,k1];rfl⟩;rw [hv,k2,k4];exact World.ownsRow_nil w 0 e sz
 ·have k4':=k4 rfl;obtain⟨cur,cap,xs',m1,m2,m3,m4,m5,m6,m7⟩:=Ob.row_cells (ob:=ob) (σ:=σ) (Z:=Z) (w:=w) (n:=nm) (e:=e) (sz:=sz) (es:=es) ⟨h0,h00,v',xs,g1,g2,g3,g4⟩ k1;have hc:cap=c:=by
   simp [World.shape?,m1] at k3;have:=k3.2;rw [m2] at this;exact Nat.eq_of_mul_eq_mul_right h0 this
  subst hc;refine⟨xs',⟨m6,.inr ⟨b,cap,cur,by rw [hv,k4'],Nat.zero_le _,m1,m3,by simpa [maxLen] using m4,m2,m7⟩⟩,m5,by rw [hv,k4',k1];rfl⟩
def Src (y:Operand) (nt:List (Nat×V)) (no:List (Nat×Ob)) (sz:Nat) (ys:List D):Prop:=∀ {B:D5} {env:Env} {ob:Obs} {a:Act} {w:World} {σ:Nat->Option Nat} {Z:Nat->Prop},Sim B env ob a w σ Z->(∀ p∈nt,env p.1=some p.2)->(∀ p∈no,ob p.1=some (some p.2)) ->
 ∃ ad c,a.eval y = .slice ad ys.length c∧(ys=[]∨∃ b o,ad=some ⟨b,o,none⟩∧(∀ e∈ys,e.sz=sz)∧D.repE Z w sz ys b o)
theorem Src.lst {sz:Nat} (hy:Opd y (.d (.list sz ys)) nt):Src y nt [] sz ys:=fun {B env ob a w σ Z} sm h _=>by
 obtain⟨ad,c,hyv,_,_,hyd⟩:=U0 (hy B env ob a w σ Z sm h);exact⟨ad,c,hyv,hyd.imp id λ⟨b,o,ha,_,hsz,hre⟩=>⟨b,o,ha,hsz,hre⟩⟩
theorem OpJ.appendX {t e sz bytes:Nat} (hB:B.ok) (hu:P.underlying t=some (.slice e)) (he:TyE P e sz bytes) {n nm:Nat} (hnm:1000<=nm) {es ys es':List D} {len:Nat} (hes:es'=es++ys) (hlen:len=es'.length)
  (hys:∀ y∈ys,y.sz=sz) (hb:es'.length*bytes<=140737488355328) (hb63:es'.length<=9223372036854775807) (hN:d<B.N) {l0:Nat} (hl0:l0=es.length) (hx:Opd x (.sref n sz 0 l0) nt) {no:List (Nat×Ob)} (hy:Src y nt' no sz ys) :
  OpJ P B ops ⟨some d,.call { callee:=.builtin .append,args:=#[x,y],argTypes:=#[t,t] },ty,pos,af,none⟩
   { nt:=nt++nt',no:=(n,.row e sz es) :: no,nf:=[nm],wt:=[(d,.sref nm sz 0 len)],wo:=[(nm,some (.row e sz es')),(n,none)] } :=
 OpJ.run rfl rfl hN rfl λenv ob a w σ Z sm hne=>by
  subst hl0;obtain⟨h1,h2⟩:=B4 hne.1;have hob:=hne.2.1 (n,.row e sz es) (by simp);have hl:live ob n:=⟨_,hob⟩;have hfr:ob nm=none:=hne.2.2 nm (by simp);have hnn:nm≠n:=λh=>by subst h;exact hl.used hfr
  have hro:=sm.obj n _ hob;obtain⟨xs,hown,hrep,hblk⟩:=Ct (hx B env ob a w σ Z sm h1) hl hro;obtain⟨ad,c,hyv,hyd⟩:=hy sm h2 λp hp=>hne.2.1 p (List.mem_cons_of_mem _ hp);obtain⟨ti,z,hi,hz,hs,hby,hzs⟩:=he.get;have hlen':es'.length=es.length+ys.length:=by rw [hes,List.length_append]
  have hrun:∃ v' w' news,(Builtin.append_ #[t,t] ty #[a.eval x,a.eval y]).run P w = .ok v' w'∧w'.ownsRow 0 e sz v' (es.length+ys.length) (xs++news)∧w.grownBy w' (a.eval x).ownBlock ∧
    (v'.ownBlock=(a.eval x).ownBlock∨v'.ownBlock=some w.heap.size)∧D.repL Z w ys news:=by
   rcases hyd with hyd | ⟨b,o,ha,hsz,hre⟩
   ·subst hyd;refine⟨a.eval x,w,[],?_,by simpa using hown,World.grownBy.refl w _,.inl rfl,rfl⟩;rw [hyv];rcases hown.2 with ⟨hv,_⟩ | ⟨g,cap,cur,hv,_,_,hnc,_⟩
    ·rw [hv];exact X5 w t ty e ti hu hi none 0 0 (Nat.le_refl _) ad c
    ·rw [hv];exact X5 w t ty e ti hu hi _ _ _ hnc ad c
   ·obtain⟨news,g1,g2⟩:=D.repL_of_repE ys b o hre hsz;have gl:=D.repL_len ys news g1;rw [D.szL_all ys hsz] at gl;obtain⟨v',w',k1,k2,k3,_,k5⟩:=run_append_own_at (P:=P) w 0 t ty e ti z sz bytes hu hi hz hs hby hzs he.pos (a.eval x) es.length xs hown ⟨b,o,none⟩ ys.length c news gl
     (λj u hj=>by rw [K6];exact g2 j u hj) (D.repL_one ys news g1) (by simp only [maxLen];omega) (by rw [<- hlen'];exact hb) (Nat.zero_le _)
    exact⟨v',w',news,by rw [hyv,ha];exact k1,k2,k3,k5,g1⟩
  obtain⟨v',w',news,hr,hown',hgr,hat,hnews⟩:=hrun;have hall:D.repL Z w es' (xs++news):=by rw [hes];exact D.repL_append es ys xs news hrep hnews
  have sk:=sm.kill n;have hlv:∀ m,live (B9 ob n none) m->m≠n∧live ob m:=λm hm=>by
   rw [C1] at hm
   by_cases hmn:m=n
   ·rw [if_pos hmn] at hm;simp at hm
   ·rw [if_neg hmn] at hm;exact⟨hmn,hm⟩
  have s2:=sk.rowNew sm (Fx ob n) hB (nm:=nm) (by simp [B9,hnn,hfr]) hnm hgr
   (λm b hm hb e=>(hlv m hm).1 (sm.inj m n b (hlv m hm).2 hl hb (by rw [<- hblk,<- e])))
   (λb hb=>⟨n,hl,by rw [<- hblk,hb]⟩) hat
   (o:=.row e sz es') λob' σ' m hσ=>by
    refine⟨he.pos,?_,v',xs++news,by rw [hlen'];exact hown',D.repL_ext m.ext es' _ hall,hσ.symm,λhn => ?_⟩
    ·intro q hq;rw [hes] at hq;rcases List.mem_append.1 hq with hq | hq
     ·exact hro.2.1 q hq
     ·exact hys q hq
    ·rw [hσ] at hn;rcases hown'.2 with ⟨_,h0⟩ | ⟨g,cap,cur,hv,_⟩
     ·exact List.eq_nil_of_length_eq_zero (by omega)
     ·rw [hv] at hn;simp [Value.ownBlock] at hn
  rw [Cr _ rfl];refine⟨v',w',_,Z,?_,s2,?_⟩
  ·simp only [execOp,resolve,invoke,builtin,Sem.run_bind,Sem.run_pure,Result.andThen_ok,List.map_toArray,List.map_cons,List.map_nil,hr]
  ·rw [hlen,hlen'];exact J6 (e:=e) (xs:=xs++news) (by rw [C1];simp) hown' (by simp [G3])
theorem OpJ.append {t e sz bytes:Nat} (hB:B.ok) (hu:P.underlying t=some (.slice e)) (he:TyE P e sz bytes) {n nm:Nat} (hnm:1000<=nm) {es ys es':List D} {len:Nat} (hes:es'=es++ys) (hlen:len=es'.length)
 (hys:∀ y∈ys,y.sz=sz) (hb:es'.length*bytes<=140737488355328) (hb63:es'.length<=9223372036854775807) (hN:d<B.N) {l0:Nat} (hl0:l0=es.length) (hx:Opd x (.sref n sz 0 l0) nt) (hy:Opd y (.d (.list sz ys)) nt') :
 OpJ P B ops ⟨some d,.call { callee:=.builtin .append,args:=#[x,y],argTypes:=#[t,t] },ty,pos,af,none⟩
  { nt:=nt++nt',no:=[(n,.row e sz es)],nf:=[nm],wt:=[(d,.sref nm sz 0 len)],wo:=[(nm,some (.row e sz es')),(n,none)] }:=OpJ.appendX hB hu he hnm hes hlen hys hb hb63 hN hl0 hx (Src.lst hy)
theorem OpJ.appendNX {e sz:Nat} (hB:B.ok) (hu:P.underlying t=some (.slice e)) (he:TyE P e sz bytes) (hnm:1000<=nm) {len:Nat} (hlen:len=ys.length) (hys:∀ y∈ys,y.sz=sz) (hb:ys.length*bytes<=140737488355328) (hb63:ys.length<=9223372036854775807) (hN:d<B.N) (hx:Opd x .nils nt) {no:List (Nat×Ob)} (hy:Src y nt' no sz ys) :
  OpJ P B ops ⟨some d,.call { callee:=.builtin .append,args:=#[x,y],argTypes:=#[t,t] },ty,pos,af,none⟩
   { nt:=nt++nt',no,nf:=[nm],wt:=[(d,.sref nm sz 0 len)],wo:=[(nm,some (.row e sz ys))] } :=
 OpJ.run rfl rfl hN rfl λenv ob a w σ Z sm hne=>by
  obtain⟨h1,h2⟩:=B4 hne.1;have hfr:ob nm=none:=hne.2.2 nm (by simp);have hxv:=T9 (hx B env ob a w σ Z sm h1);obtain⟨ad,c,hyv,hyd⟩:=hy sm h2 hne.2.1;obtain⟨ti,z,hi,hz,hs,hby,hzs⟩:=he.get;have hown:=World.ownsRow_nil w 0 e sz;have hrun:∃ v' w' news,(Builtin.append_ #[t,t] ty #[.slice none 0 0,a.eval y]).run P w = .ok v' w'∧w'.ownsRow 0 e sz v' ys.length news∧w.grownBy w' none ∧
    (v'.ownBlock=none∨v'.ownBlock=some w.heap.size)∧D.repL Z w ys news:=by
   rcases hyd with hyd | ⟨b,o,ha,hsz,hre⟩
   ·subst hyd;refine⟨.slice none 0 0,w,[],?_,hown,World.grownBy.refl w _,.inl rfl,rfl⟩;rw [hyv];exact X5 w t ty e ti hu hi none 0 0 (Nat.le_refl _) ad c
   ·obtain⟨news,g1,g2⟩:=D.repL_of_repE ys b o hre hsz;have gl:=D.repL_len ys news g1;rw [D.szL_all ys hsz] at gl;obtain⟨v',w',k1,k2,k3,_,k5⟩:=run_append_own_at (P:=P) w 0 t ty e ti z sz bytes hu hi hz hs hby hzs he.pos (.slice none 0 0) 0 [] hown ⟨b,o,none⟩ ys.length c news gl
     (λj u hj=>by rw [K6];exact g2 j u hj) (D.repL_one ys news g1) (by simp only [maxLen];omega) (by simpa using hb) (Nat.zero_le _)
    exact⟨v',w',news,by rw [hyv,ha];exact k1,by simpa using k2,k3,k5,g1⟩
  obtain⟨v',w',news,hr,hown',hgr,hat,hnews⟩:=hrun;have s2:=sm.rowNew0 hB (nm:=nm) hfr hnm hgr hat
   (o:=.row e sz ys) λob' σ' m hσ=>by
    refine⟨he.pos,hys,v',news,hown',D.repL_ext m.ext ys _ hnews,hσ.symm,λhn => ?_⟩;rw [hσ] at hn;rcases hown'.2 with ⟨_,h0⟩ | ⟨g,cap,cur,hv,_⟩
    ·exact List.eq_nil_of_length_eq_zero (by omega)
    ·rw [hv] at hn;simp [Value.ownBlock] at hn
  rw [F1 _ rfl];refine⟨v',w',_,Z,?_,s2,?_⟩
  ·simp only [execOp,resolve,invoke,builtin,Sem.run_bind,Sem.run_pure,Result.andThen_ok,List.map_toArray,List.map_cons,List.map_nil,hxv,hr]
  ·rw [hlen];exact J6 (e:=e) (xs:=news) (by rw [C1];simp) hown' (by simp [G3])
theorem OpJ.appendN {t e sz bytes:Nat} (hB:B.ok) (hu:P.underlying t=some (.slice e)) (he:TyE P e sz bytes) {nm:Nat} (hnm:1000<=nm) {ys:List D} {len:Nat} (hlen:len=ys.length)
 (hys:∀ y∈ys,y.sz=sz) (hb:ys.length*bytes<=140737488355328) (hb63:ys.length<=9223372036854775807) (hN:d<B.N) (hx:Opd x .nils nt) (hy:Opd y (.d (.list sz ys)) nt') :
 OpJ P B ops ⟨some d,.call { callee:=.builtin .append,args:=#[x,y],argTypes:=#[t,t] },ty,pos,af,none⟩
  { nt:=nt++nt',nf:=[nm],wt:=[(d,.sref nm sz 0 len)],wo:=[(nm,some (.row e sz ys))] }:=OpJ.appendNX hB hu he hnm hlen hys hb hb63 hN hx (Src.lst hy)
theorem Rl (z:List Value) (hz:0<z.length) (n:Nat):madeCells z.toArray (n*z.length)=(List.replicate n z).flatten.toArray:=by
 apply Array.toList_inj.1;have:=I6 z hz n;rw [<- this];simp [madeCells]
theorem OpJ.make {e sz:Nat} {z:D} (hB:B.ok) (hu:P.underlying t=some (.slice e)) (he:TyE P e sz bytes) (hz:TyZ P e (.d z)) (hzs:z.sz=sz) (hnm:1000<=nm) {k k':IntKind} {l c:Int} (h0:0<=l) (hlc:l<=c) (hb:(bytes:Int)*c<=281474976710656) (hb63:c<=9223372036854775807) (hN:d<B.N) (hes:es=List.replicate l.toNat z) {len:Nat} (hlen:len=es.length) (hx:Opd x (.d (.int k l)) nt) (hy:Opd y (.d (.int k' c)) nt') :
  OpJ P B ops ⟨some d,.makeSlice t x y,ty,pos,af,none⟩ { nt:=nt++nt',nf:=[nm],wt:=[(d,.sref nm sz 0 len)],wo:=[(nm,some (.row e sz es))] } :=
 OpJ.run rfl rfl hN rfl λenv ob a w σ Z sm hne=>by
  obtain⟨h1,h2⟩:=B4 hne.1;have hfr:ob nm=none:=hne.2.2 nm (by simp);have hxv:=E6 (hx B env ob a w σ Z sm h1);have hyv:=E6 (hy B env ob a w σ Z sm h2);obtain⟨ti,zv,hi,hz',hs,hby,hzs'⟩:=he.get;have hzc:zv.cells.toList=z.enc:=by
   have h3:=hz.run w;simp only [zeroValue,typeInfo,Sem.run_bind] at h3;have h4:=hz.cells;simp [hi,hz'] at h3;rw [h3];exact h4
  have hzl:z.enc.length=sz:=by
   have:=D.rep_len (Z:=Z) (w:=w) z _ (D.rep_enc z hz.plain);rw [this,hzs]
  have hpos:=he.pos;have hcells:zv.cells=z.enc.toArray:=by rw [<- hzc]
  have hr:=run_make (P:=P) w t e ti zv hu hi hz' k k' l c h0 hlc (by rw [hby];exact hb) hb63;have hmc:madeCells zv.cells (c.toNat*ti.size)=(List.replicate c.toNat z.enc).flatten.toArray:=by
   rw [hcells,hs,<- hzl];exact Rl z.enc (by omega) _
  have hrepc:=H4 (Z:=Z) (w:=w) hz.plain c.toNat;have hcl:=D.repL_len _ _ hrepc;rw [D.szL_all (sz:=sz) _ (λq hq=>by rw [List.eq_of_mem_replicate hq,hzs]),List.length_replicate] at hcl;have hrepl:=H4 (Z:=Z) (w:=w) hz.plain l.toNat;have hll:=D.repL_len _ _ hrepl;rw [D.szL_all (sz:=sz) _ (λq hq=>by rw [List.eq_of_mem_replicate hq,hzs]),List.length_replicate] at hll;have hsplit:(List.replicate c.toNat z.enc).flatten=(List.replicate l.toNat z.enc).flatten++(List.replicate (c.toNat-l.toNat) z.enc).flatten:=by
   rw [<- List.flatten_append,List.replicate_append_replicate,show l.toNat+(c.toNat-l.toNat)=c.toNat from by omega]
  have hel:es.length=l.toNat:=by rw [hes,List.length_replicate]
  have hown:(w.alloc (.cells (madeCells zv.cells (c.toNat*ti.size)) e)).ownsRow 0 e sz (.slice (some ⟨w.heap.size,0,none⟩) l.toNat c.toNat) es.length (List.replicate l.toNat z.enc).flatten:=by
   refine⟨by rw [hll,hel],.inr ⟨w.heap.size,c.toNat,_,by rw [hel],Nat.zero_le _,heap_alloc_new w _,by rw [hel];omega,by simp only [maxLen];omega,?_,?_⟩⟩
   ·rw [hmc,List.size_toArray,hcl]
   ·rw [hmc,hsplit,hel,<- hll];exact List.take_left
  have s2:=sm.newObj hB hfr hnm (o:=.row e sz es) (c:=.cells (madeCells zv.cells (c.toNat*ti.size)) e) λob' σ' m hσ =>
   ⟨he.pos,λq hq=>by rw [hes] at hq;rw [List.eq_of_mem_replicate hq,hzs],_,_,hown,by rw [hes];exact D.repL_ext m.ext _ _ hrepl,by rw [hσ];rfl,λhn=>by rw [hσ] at hn;cases hn⟩
  rw [F1 _ rfl];refine⟨.slice (some ⟨w.heap.size,0,none⟩) l.toNat c.toNat,w.alloc (.cells (madeCells zv.cells (c.toNat*ti.size)) e),G3 σ nm (some w.heap.size),Z,?_,s2,?_⟩
  ·simp only [execOp,hxv,hyv,Sem.run_bind,hr,Result.andThen_ok];rfl
  ·rw [hlen];have:=J6 (ob:=B9 ob nm (some (.row e sz es))) (σ:=G3 σ nm (some w.heap.size)) (Z:=Z) (nm:=nm) (by rw [C1];simp) hown (by simp [G3,Value.ownBlock]);simpa [hel] using this
theorem Rm (w:World) (t e:TypeId) {sz:Nat} {ag:Bool} (hu:P.underlying t=some (.slice e)) (ht:TyS P e sz ag) (a:Option Addr) (len cap:Nat) (hlc:len<=cap) (lo hi:Option Value) (l h:Nat)
  (hlo:lo=none∧l=0∨∃ k n,lo=some (.int k n)∧0<=n∧l=n.toNat) (hhi:hi=none∧h=len∨∃ k n,hi=some (.int k n)∧0<=n∧h=n.toNat) (h1:l<=h) (h2:h<=cap) :
  (Instr.sliceAt t (.slice a len cap) lo hi none).run P w = .ok (.slice (if cap=l then a else a.map (·.add (l*sz))) (h-l) (cap-l)) w:=by
 have hb:∀ (n:Int) (k:IntKind) (y:Nat) (code:BoundsCode),0<=n->n.toNat<=y->(Instr.sliceBound (.int k n) y code).run P w = .ok n.toNat w:=by
  intro n k y code h0 hy;have:n<=(y:Int):=by omega
  simp [Instr.sliceBound,asIntOf,h0,this]
 have hsz:=ht.run_size w;rcases hlo with ⟨rfl,rfl⟩ | ⟨k,n,rfl,hn,rfl⟩
 ·rcases hhi with ⟨rfl,rfl⟩ | ⟨k',n',rfl,hn',rfl⟩
  ·simp [Instr.sliceAt,Instr.slice,run_underlying hu,Instr.sliceBounds,hsz]
  ·have e2:=hb n' k' cap .sliceAcap hn' h2;simp [Instr.sliceAt,Instr.slice,run_underlying hu,Instr.sliceBounds,hsz,e2]
 ·rcases hhi with ⟨rfl,rfl⟩ | ⟨k',n',rfl,hn',rfl⟩
  ·have e1:=hb n k h .sliceB hn h1;simp [Instr.sliceAt,Instr.slice,run_underlying hu,Instr.sliceBounds,hsz,e1]
  ·have e1:=hb n k n'.toNat .sliceB hn h1;have e2:=hb n' k' cap .sliceAcap hn' h2;simp [Instr.sliceAt,Instr.slice,run_underlying hu,Instr.sliceBounds,hsz,e1,e2]
theorem OpJ.cutD {t e:TypeId} {sz:Nat} {ag:Bool} (hu:P.underlying t=some (.slice e)) (ht:TyS P e sz ag) {es es':List D} {lo hi:Option Operand} {l h:Nat} {nl nh:List (Nat×V)}
  (hlo:(lo=none∧l=0∧nl=[])∨∃ o k n,lo=some o∧Opd o (.d (.int k n)) nl∧0<=n∧l=n.toNat) (hhi:(hi=none∧h=es.length∧nh=[])∨∃ o k n,hi=some o∧Opd o (.d (.int k n)) nh∧0<=n∧h=n.toNat)
  (h1:l<=h) (h2:h<=es.length) (hes:es'=(es.take h).drop l) (hN:d<B.N) (hx:Opd x (.d (.list sz es)) nt) :
  OpJ P B ops ⟨some d,.slice t x lo hi none,ty,pos,af,none⟩ { nt:=nt++(nl++nh),wt:=[(d,.d (.list sz es'))] } :=
 OpJ.pure rfl rfl hN λenv ob a w σ Z sm hne=>by
  obtain⟨g1,g23⟩:=B4 hne;obtain⟨g2,g3⟩:=B4 g23;obtain⟨ad,c,hv,hc1,hc2,hd⟩:=U0 (hx B env ob a w σ Z sm g1);have hr:=Rm (P:=P) w t e hu ht ad es.length c hc1 (lo.map a.eval) (hi.map a.eval) l h
   (by
    rcases hlo with ⟨rfl,h0,_⟩ | ⟨o,k,n,rfl,ho,hn,hl⟩
    ·exact .inl ⟨rfl,h0⟩
    ·exact .inr ⟨k,n,by simp [E6 (ho B env ob a w σ Z sm g2)],hn,hl⟩)
   (by
    rcases hhi with ⟨rfl,h0,_⟩ | ⟨o,k,n,rfl,ho,hn,hl⟩
    ·exact .inl ⟨rfl,h0⟩
    ·exact .inr ⟨k,n,by simp [E6 (ho B env ob a w σ Z sm g3)],hn,hl⟩)
   h1 (by omega)
  have hel:es'.length=h-l:=by rw [hes,List.length_drop,List.length_take,Nat.min_eq_left h2]
  refine⟨.slice (if c=l then ad else ad.map (·.add (l*sz))) (h-l) (c-l),by simp only [execOp,hv,Sem.run_bind,Option.map_none,hr,Result.andThen_ok];rfl,?_⟩;refine⟨⟨_,_,by rw [hel],by rw [hel];omega,by omega,?_⟩,.inr rfl⟩
  by_cases hnil:es'=[]
  ·exact .inl hnil
  ·right;have hpos:0<es'.length:=List.length_pos_iff.2 hnil;rcases hd with hd | ⟨b,o,ha,hz,hs,hre⟩
   ·subst hd;simp at hes;exact absurd hes hnil
   ·refine⟨b,o+l*sz,?_,hz,λq hq=>hs q ?_,?_⟩
    ·rw [if_neg (by omega),ha];simp [K6]
    ·rw [hes] at hq;exact List.mem_of_mem_take (List.mem_of_mem_drop hq)
    ·rw [hes];exact D.repE_drop _ b o l (D.repE_take es b o h hre)
theorem OpJ.cutS {t e:TypeId} {sz:Nat} {ag:Bool} (hu:P.underlying t=some (.slice e)) (ht:TyS P e sz ag) {nm off len off' len':Nat} {obj:Ob} {lo hi:Option Operand} {l h:Nat} {nl nh:List (Nat×V)}
  (hlo:(lo=none∧l=0∧nl=[])∨∃ o k n,lo=some o∧Opd o (.d (.int k n)) nl∧0<=n∧l=n.toNat) (hhi:(hi=none∧h=len∧nh=[])∨∃ o k n,hi=some o∧Opd o (.d (.int k n)) nh∧0<=n∧h=n.toNat)
  (h1:l<=h) (h2:h<=len) (ho:off'=off+l) (hl:len'=h-l) (hN:d<B.N) (hx:Opd x (.sref nm sz off len) nt) :
  OpJ P B ops ⟨some d,.slice t x lo hi none,ty,pos,af,none⟩ { nt:=nt++(nl++nh),no:=[(nm,obj)],wt:=[(d,.sref nm sz off' len')] } :=
 OpJ.run rfl rfl hN rfl λenv ob a w σ Z sm hne=>by
  obtain⟨g1,g23⟩:=B4 hne.1;obtain⟨g2,g3⟩:=B4 g23;have hlv:live ob nm:=⟨obj,hne.2.1 (nm,obj) (by simp)⟩;obtain⟨ad,c,hv,hc1,hc2,hd⟩:=O9 (hx B env ob a w σ Z sm g1) hlv;have hr:=Rm (P:=P) w t e hu ht ad len c hc1 (lo.map a.eval) (hi.map a.eval) l h
   (by
    rcases hlo with ⟨rfl,h0,_⟩ | ⟨o,k,n,rfl,ho,hn,hl⟩
    ·exact .inl ⟨rfl,h0⟩
    ·exact .inr ⟨k,n,by simp [E6 (ho B env ob a w σ Z sm g2)],hn,hl⟩)
   (by
    rcases hhi with ⟨rfl,h0,_⟩ | ⟨o,k,n,rfl,ho,hn,hl⟩
    ·exact .inl ⟨rfl,h0⟩
    ·exact .inr ⟨k,n,by simp [E6 (ho B env ob a w σ Z sm g3)],hn,hl⟩)
   h1 (by omega)
  rw [C9 _ rfl];refine⟨.slice (if c=l then ad else ad.map (·.add (l*sz))) (h-l) (c-l),w,σ,Z,by simp only [execOp,hv,Sem.run_bind,Option.map_none,hr,Result.andThen_ok];rfl,sm,?_⟩;refine⟨⟨hlv.used,λ_=>⟨_,c-l,by rw [hl],by omega,by omega,?_⟩⟩,.inr rfl⟩;rcases hd with ⟨k1,k2,k3,k4⟩ | ⟨b,e',k1,k2,k3,k4⟩
  ·left;exact⟨k1,by rw [k2];simp,by omega,by omega⟩
  ·right;refine⟨b,e',k1,?_,?_,λh0 => ?_⟩
   ·by_cases hcl:c=l
    ·left;omega
    ·right;rw [if_neg hcl,k2.resolve_left (by omega)];simp only [Option.map_some,K6,ho,Nat.add_mul]
   ·rw [k3,ho,show off+l+(c-l)=off+c from by omega]
   ·have:off=0:=by omega
    have hl0:l=0:=by omega
    subst hl0;have:=k4 this;rw [this]
    by_cases hcl:c=0
    ·rw [if_pos hcl]
    ·rw [if_neg hcl];simp [K6]
theorem OpJ.makeFunc {f:FuncId} {caps:List Operand} {vs:List V} {nts:List (Nat×V)} (hc:∀ (B:D5) (env:Env) (ob:Obs) (a:Act) (w:World) (σ:Nat->Option Nat) (Z:Nat->Prop),Sim B env ob a w σ Z->(∀ p∈nts,env p.1=some p.2)->V.repL ob σ Z w vs (caps.map a.eval)) (hN:d<B.N) :
  OpJ P B ops ⟨some d,.makeFunc (.func f) #[] caps.toArray,ty,pos,af,none⟩ { nt:=nts,wt:=[(d,.func f vs)] } :=
 OpJ.pure rfl rfl hN λenv ob a w σ Z sm hne=>by
  refine⟨.func (.func f) #[] (caps.map a.eval).toArray,by simp [execOp,Instr.makeFunc],⟨⟨_,rfl,hc B env ob a w σ Z sm hne⟩,.inr rfl⟩⟩
end
end Go.Vc
namespace Go.Vc
open Go
variable {P:Program} {B:D5} {ops:Array Oper}
mutual
def V.ren (r:Nat->Nat):V->V
 | .ptr n off p => .ptr (r n) off p
 | .sref n sz off len => .sref (r n) sz off len
 | .func f caps => .func f (V.renL r caps)
 | .st fs => .st (V.renL r fs)
 | .tup fs => .tup (V.renL r fs)
 | .opt g x => .opt g (V.ren r x)
 | .mref n => .mref (r n)
 | x=>x
def V.renL (r:Nat->Nat):List V->List V
 | []=>[]
 | x :: xs=>V.ren r x :: V.renL r xs
end
def Ob.ren (r:Nat->Nat):Ob->Ob
 | .box t x => .box t (x.ren r)
 | .row e sz es => .row e sz es
 | .blk s => .blk s
 | .know k => .know k
 | .reg r => .reg r
 | .vrow e sz fs => .vrow e sz (V.renL r fs)
mutual
def V.names:V->List Nat
 | .ptr n _ _=>[n]
 | .sref n _ _ _=>[n]
 | .func _ caps=>V.namesL caps
 | .st fs=>V.namesL fs
 | .tup fs=>V.namesL fs
 | .opt _ x=>V.names x
 | .mref n=>[n]
 | _=>[]
def V.namesL:List V->List Nat
 | []=>[]
 | x :: xs=>V.names x++V.namesL xs
end
def Ob.names:Ob->List Nat
 | .box _ x=>x.names
 | .row .. => []
 | .blk _=>[]
 | .know _=>[]
 | .reg _=>[]
 | .vrow _ _ fs=>V.namesL fs
theorem V.ren_agg (r:Nat->Nat) (x:V):(x.ren r).isAgg=x.isAgg:=by cases x<;>rfl
mutual
theorem V.ren_sz (r:Nat->Nat):∀ (x:V),(x.ren r).sz=x.sz
 | .st fs=>V.ren_szL r fs
 | .junk=>rfl
 | .d _=>rfl
 | .nils=>rfl
 | .ptr .. => rfl
 | .dptr _=>rfl
 | .sref .. => rfl
 | .func .. => rfl
 | .tup _=>rfl
 | .opt .. => rfl
 | .mref _=>rfl
 | .full .. => rfl
 | .cst _=>rfl
 | .sat _=>rfl
theorem V.ren_szL (r:Nat->Nat):∀ (xs:List V),V.szL (V.renL r xs)=V.szL xs
 | []=>rfl
 | x :: xs=>by simp [V.renL,V.szL,V.ren_sz r x,V.ren_szL r xs]
end
theorem V.renL_len (r:Nat->Nat):∀ (xs:List V),(V.renL r xs).length=xs.length
 | []=>rfl
 | x :: xs=>by simp [V.renL,V.renL_len r xs]
theorem V.renL_sz (r:Nat->Nat) {sz:Nat}:∀ {xs:List V},(∀ x∈V.renL r xs,x.sz=sz)↔∀ x∈xs,x.sz=sz
 | []=>⟨λ_ x h=>(by cases h),λ_ x h=>(by cases h)⟩
 | x :: xs=>by
  have ih:=V.renL_sz r (sz:=sz) (xs:=xs);constructor
  ·intro h y hy;rcases List.mem_cons.1 hy with e | hy
   ·subst e;rw [<- V.ren_sz r y];exact h _ (by simp [V.renL])
   ·exact ih.1 (λz hz=>h z (by rw [V.renL];exact List.mem_cons_of_mem _ hz)) y hy
  ·intro h y hy;rw [V.renL] at hy;rcases List.mem_cons.1 hy with e | hy
   ·subst e;rw [V.ren_sz];exact h x (List.mem_cons_self ..)
   ·exact ih.2 (λz hz=>h z (List.mem_cons_of_mem _ hz)) y hy
structure Kj (r:Nat->Nat) (ob ob':Obs) (σ σ':Nat->Option Nat) (ns:List Nat):Prop where
 us:∀ n∈ns,used ob' n
 lv:∀ n∈ns,live ob' n->live ob (r n)∧σ' n=σ (r n)
section
variable {r:Nat->Nat} {ob ob':Obs} {σ σ':Nat->Option Nat} {Z:Nat->Prop} {w:World}
theorem Kj.mono {ns ns':List Nat} (h:Kj r ob ob' σ σ' ns) (hs:∀ n∈ns',n∈ns):Kj r ob ob' σ σ' ns':=⟨λn hn=>h.us n (hs n hn),λn hn=>h.lv n (hs n hn)⟩
mutual
theorem V.unren:∀ (x:V) (cs:List Value),Kj r ob ob' σ σ' x.names->V.rep ob σ Z w (x.ren r) cs->V.rep ob' σ' Z w x cs
 | .junk,_,_,h=>h
 | .d _,_,_,h=>h
 | .nils,_,_,h=>h
 | .dptr _,_,_,h=>h
 | .ptr n off p,cs,b,h=>⟨b.us n (by simp [V.names]),λhl=>by
  obtain⟨l,e⟩:=b.lv n (by simp [V.names]) hl;obtain⟨k,h1,h2⟩:=h.2 l;exact⟨k,e.trans h1,h2⟩⟩
 | .full ..,_,_,h=>h
 | .cst _,_,_,h=>h
 | .sat _,_,_,h=>h
 | .mref n,cs,b,h=>⟨b.us n (by simp [V.names]),λhl=>by
  obtain⟨l,e⟩:=b.lv n (by simp [V.names]) hl;obtain⟨k,h1,h2⟩:=h.2 l;exact⟨k,e.trans h1,h2⟩⟩
 | .sref n sz off len,cs,b,h=>⟨b.us n (by simp [V.names]),λhl=>by
  obtain⟨l,e⟩:=b.lv n (by simp [V.names]) hl;obtain⟨a,c,h1,h2,h3,h4⟩:=h.2 l;exact⟨a,c,h1,h2,h3,by rw [e];exact h4⟩⟩
 | .func f caps,cs,b,h=>by
  obtain⟨cvs,h1,h2⟩:=h;exact⟨cvs,h1,V.unrenL caps cvs b h2⟩
 | .st fs,cs,b,h=>V.unrenS fs cs b h
 | .tup _,_,_,h=>h.elim
 | .opt ..,_,_,h=>h.elim
theorem V.unrenL:∀ (xs:List V) (cs:List Value),Kj r ob ob' σ σ' (V.namesL xs)->V.repL ob σ Z w (V.renL r xs) cs->V.repL ob' σ' Z w xs cs
 | [],_,_,h=>h
 | x :: xs,cs,b,h=>by
  obtain⟨c,rest,h1,h0,h2,h3⟩:=h;exact⟨c,rest,h1,h0,V.unren x [c] (b.mono λn hn=>List.mem_append_left _ hn) h2,V.unrenL xs rest (b.mono λn hn=>List.mem_append_right _ hn) h3⟩
theorem V.unrenS:∀ (xs:List V) (cs:List Value),Kj r ob ob' σ σ' (V.namesL xs)->V.repS ob σ Z w (V.renL r xs) cs->V.repS ob' σ' Z w xs cs
 | [],_,_,h=>h
 | x :: xs,cs,b,h=>by
  obtain⟨c1,c2,h1,h2,h3,h4,h5⟩:=h;exact⟨c1,c2,h1,h2.trans (V.ren_sz r x),h3,V.unren x c1 (b.mono λn hn=>List.mem_append_left _ hn) h4,V.unrenS xs c2 (b.mono λn hn=>List.mem_append_right _ hn) h5⟩
end
theorem F3.unren {v:Value} {x:V} (b:Kj r ob ob' σ σ' x.names) (h:F3 ob σ Z w v (x.ren r)):F3 ob' σ' Z w v x:=by
 unfold F3 at *;rw [V.ren_agg] at h
 by_cases hx:x.isAgg=true
 ·rw [if_pos hx] at h ⊢;obtain⟨cs,h1,h2⟩:=h;exact⟨cs,h1,V.unren x cs b h2⟩
 ·rw [if_neg hx] at h ⊢;refine⟨V.unren x [v] b h.1,?_⟩;rcases h.2 with h2 | h2
  ·exact .inl (by cases x<;>simp_all [V.ren])
  ·exact .inr h2
theorem J8.unren:∀ {vs:List Value} {xs:List V},Kj r ob ob' σ σ' (V.namesL xs)->J8 ob σ Z w vs (V.renL r xs)->J8 ob' σ' Z w vs xs
 | [],[],_,_=>trivial
 | _ :: _,_ :: _,b,h=>⟨F3.unren (b.mono λ_ hn=>List.mem_append_left _ hn) h.1,J8.unren (b.mono λ_ hn=>List.mem_append_right _ hn) h.2⟩
 | [],_ :: _,_,h=>h.elim
 | _ :: _,[],_,h=>h.elim
theorem D0.unren {v:Value} {x:V} (b:Kj r ob ob' σ σ' x.names) (h:D0 ob σ Z w v (x.ren r)):D0 ob' σ' Z w v x:=by
 cases x with
 | tup xs=>obtain⟨vs,h1,h2⟩:=h;exact⟨vs,h1,h2.unren b⟩
 | opt g x=>exact⟨λe=>F3.unren (r:=r) b (h.1 e),h.2⟩
 | _=>exact F3.unren b h
theorem Ob.unren {n:Nat} {o:Ob} (b:Kj r ob ob' σ σ' o.names) (hs:σ' n=σ (r n)) (h:(o.ren r).rep ob σ Z w (r n)):o.rep ob' σ' Z w n:=by
 cases o with
 | box t x =>
  obtain⟨k,cs,h1,h2,h3,h4,h5⟩:=h;exact⟨k,cs,hs.trans h1,h2,h3,h4.trans (V.ren_sz r x),V.unren x _ b h5⟩
 | vrow e sz fs =>
  obtain⟨h0,h00,v,xs,h1,h1',h2,h3,h4⟩:=h;refine⟨h0,(V.renL_sz r).1 h00,v,xs,by rw [<- V.renL_len r fs];exact h1,h1',V.unrenS fs xs b h2,h3.trans hs.symm,λhn => ?_⟩;have:=h4 (hs.symm.trans hn);exact List.eq_nil_of_length_eq_zero (by rw [<- V.renL_len r fs,this];rfl)
 | row e sz es =>
  obtain⟨h0,h00,v,xs,h1,h2,h3,h4⟩:=h;exact⟨h0,h00,v,xs,h1,h2,h3.trans hs.symm,λhn=>h4 (hs.symm.trans hn)⟩
 | blk sp =>
  obtain⟨k,h1,h2⟩:=h;exact⟨k,hs.trans h1,h2⟩
 | know k=>exact⟨hs.trans h.1,h.2⟩
 | reg r=>exact λb hb=>h b (hs.symm.trans hb)
end
structure Wt (r:Nat->Nat) (ob ob':Obs) (σ σ':Nat->Option Nat):Prop where
 us:∀ n,used ob n->used ob' (r n)
 lv:∀ n,used ob n->live ob' (r n)->live ob n∧σ' (r n)=σ n
section
variable {r:Nat->Nat} {ob ob':Obs} {σ σ':Nat->Option Nat} {Z:Nat->Prop} {w:World}
mutual
theorem V.doren (b:Wt r ob ob' σ σ'):∀ (x:V) (cs:List Value),V.rep ob σ Z w x cs->V.rep ob' σ' Z w (x.ren r) cs
 | .junk,_,h=>h
 | .d _,_,h=>h
 | .nils,_,h=>h
 | .dptr _,_,h=>h
 | .ptr n off p,cs,h=>⟨b.us n h.1,λhl=>by
  obtain⟨l,e⟩:=b.lv n h.1 hl;obtain⟨k,h1,h2⟩:=h.2 l;exact⟨k,e.trans h1,h2⟩⟩
 | .full ..,_,h=>h
 | .cst _,_,h=>h
 | .sat _,_,h=>h
 | .mref n,cs,h=>⟨b.us n h.1,λhl=>by
  obtain⟨l,e⟩:=b.lv n h.1 hl;obtain⟨k,h1,h2⟩:=h.2 l;exact⟨k,e.trans h1,h2⟩⟩
 | .sref n sz off len,cs,h=>⟨b.us n h.1,λhl=>by
  obtain⟨l,e⟩:=b.lv n h.1 hl;obtain⟨a,c,h1,h2,h3,h4⟩:=h.2 l;exact⟨a,c,h1,h2,h3,by rw [e];exact h4⟩⟩
 | .func f caps,cs,h=>by
  obtain⟨cvs,h1,h2⟩:=h;exact⟨cvs,h1,V.dorenL b caps cvs h2⟩
 | .st fs,cs,h=>V.dorenS b fs cs h
 | .tup _,_,h=>h.elim
 | .opt ..,_,h=>h.elim
theorem V.dorenL (b:Wt r ob ob' σ σ'):∀ (xs:List V) (cs:List Value),V.repL ob σ Z w xs cs->V.repL ob' σ' Z w (V.renL r xs) cs
 | [],_,h=>h
 | x :: xs,cs,h=>by
  obtain⟨c,rest,h1,h0,h2,h3⟩:=h;exact⟨c,rest,h1,h0,V.doren b x [c] h2,V.dorenL b xs rest h3⟩
theorem V.dorenS (b:Wt r ob ob' σ σ'):∀ (xs:List V) (cs:List Value),V.repS ob σ Z w xs cs->V.repS ob' σ' Z w (V.renL r xs) cs
 | [],_,h=>h
 | x :: xs,cs,h=>by
  obtain⟨c1,c2,h1,h2,h3,h4,h5⟩:=h;exact⟨c1,c2,h1,h2.trans (V.ren_sz r x).symm,h3,V.doren b x c1 h4,V.dorenS b xs c2 h5⟩
end
theorem F3.doren (b:Wt r ob ob' σ σ') {v:Value} {x:V} (h:F3 ob σ Z w v x):F3 ob' σ' Z w v (x.ren r):=by
 unfold F3 at *;rw [V.ren_agg]
 by_cases hx:x.isAgg=true
 ·rw [if_pos hx] at h ⊢;obtain⟨cs,h1,h2⟩:=h;exact⟨cs,h1,V.doren b x cs h2⟩
 ·rw [if_neg hx] at h ⊢;refine⟨V.doren b x [v] h.1,?_⟩;rcases h.2 with h2 | h2
  ·exact .inl (by subst h2;rfl)
  ·exact .inr h2
theorem J8.doren (b:Wt r ob ob' σ σ'):∀ {vs:List Value} {xs:List V},J8 ob σ Z w vs xs->J8 ob' σ' Z w vs (V.renL r xs)
 | [],[],_=>trivial
 | _ :: _,_ :: _,h=>⟨h.1.doren b,J8.doren b h.2⟩
 | [],_ :: _,h=>h.elim
 | _ :: _,[],h=>h.elim
theorem D0.doren (b:Wt r ob ob' σ σ') {v:Value} {x:V} (h:D0 ob σ Z w v x):D0 ob' σ' Z w v (x.ren r):=by
 cases x with
 | tup xs=>obtain⟨vs,h1,h2⟩:=h;exact⟨vs,h1,h2.doren b⟩
 | opt g x=>exact⟨λe=>F3.doren b (h.1 e),h.2⟩
 | _=>exact F3.doren b h
theorem Ob.doren (b:Wt r ob ob' σ σ') {n:Nat} {o:Ob} (hs:σ' (r n)=σ n) (h:o.rep ob σ Z w n):(o.ren r).rep ob' σ' Z w (r n):=by
 cases o with
 | box t x =>
  obtain⟨k,cs,h1,h2,h3,h4,h5⟩:=h;exact⟨k,cs,hs.trans h1,h2,h3,h4.trans (V.ren_sz r x).symm,V.doren b x _ h5⟩
 | vrow e sz fs =>
  obtain⟨h0,h00,v,xs,h1,h1',h2,h3,h4⟩:=h;exact⟨h0,(V.renL_sz r).2 h00,v,xs,by rw [V.renL_len r fs];exact h1,h1',V.dorenS b fs xs h2,h3.trans hs.symm,λhn=>by rw [h4 (hs.symm.trans hn)];rfl⟩
 | row e sz es =>
  obtain⟨h0,h00,v,xs,h1,h2,h3,h4⟩:=h;exact⟨h0,h00,v,xs,h1,h2,h3.trans hs.symm,λhn=>h4 (hs.symm.trans hn)⟩
 | blk sp =>
  obtain⟨k,h1,h2⟩:=h;exact⟨k,hs.trans h1,h2⟩
 | know k=>exact⟨hs.trans h.1,h.2⟩
 | reg r=>exact λb hb=>h b (hs.symm.trans hb)
end
variable {σ:Nat->Option Nat} {Z:Nat->Prop} {w:World}
abbrev EL:=List (Nat×V)
abbrev OL:=List (Nat×Option Ob)
def rnm (R:List (Nat×Nat)) (n:Nat):Nat:=match A1 R n with | some m=>m | none=>n
def memB (n:Nat):List Nat->Bool
 | []=>false
 | m :: l=>Nat.beq m n || memB n l
theorem Q7 {n:Nat}:∀ {l:List Nat},memB n l=true->n∈l
 | [],h=>by simp [memB] at h
 | m :: l,h=>by
  simp only [memB,Bool.or_eq_true] at h;rcases h with h | h
  ·rw [Nat.eq_of_beq_eq_true h];exact List.mem_cons_self ..
  ·exact List.mem_cons_of_mem _ (Q7 h)
theorem M3 {α:Type} {k:Nat}:∀ {l:List (Nat×α)},k∈B8 l->A1 l k≠none
 | [],h=>by simp [B8] at h
 | (j,x) :: l,h=>by
  rw [A4]
  by_cases hj:j=k
  ·simp [hj]
  ·rw [if_neg hj];simp only [B8,List.map_cons,List.mem_cons] at h;rcases h with h | h
   ·exact absurd h.symm hj
   ·exact M3 h
def Dl (R:List (Nat×Nat)) (E':EL) (O':OL):Bool :=
 (E'.all λp=>p.2.names.all λn=>memB n (B8 O')) &&
 (O'.all λp=>match p.2 with | some o=>o.names.all λn=>memB n (B8 O') | none=>true) &&
 (O'.all λp=>O'.all λq=>match p.2,q.2 with | some _,some _ => !Nat.beq (rnm R p.1) (rnm R q.1) || Nat.beq p.1 q.1 | _,_=>true) &&
 (O'.all λp=>match p.2 with | some _=>Nat.ble 1000 p.1 || Nat.beq (rnm R p.1) p.1 | none=>true)
def A9e (E':EL) (E:EL):List (Option V):=E'.map λp=>A1 E p.1
def Wu (R:List (Nat×Nat)) (E':EL):List (Option V):=E'.map λp=>some (p.2.ren (rnm R))
def A06 (R:List (Nat×Nat)) (O':OL) (O:OL):List (Option (Option Ob)):=O'.map λp=>match p.2 with | some _=>A1 O (rnm R p.1) | none=>none
def Ni (R:List (Nat×Nat)) (O':OL):List (Option (Option Ob)):=O'.map λp=>match p.2 with | some o=>some (some (o.ren (rnm R))) | none=>none
theorem M7 {α β:Type} {f g:α->β} {l:List α} (h:l.map f=l.map g):∀ x∈l,f x=g x:=by
 induction l with
 | nil=>simp
 | cons a l ih =>
  simp only [List.map_cons,List.cons.injEq] at h;intro x hx;rcases List.mem_cons.1 hx with hx | hx
  ·subst hx;exact h.1
  ·exact ih h.2 x hx
theorem Sim.pat {E E':EL} {O O':OL} {a:Act} (hB:B.ok) (R:List (Nat×Nat)) (hok:Dl R E' O'=true) (hE:A9e E' E=Wu R E') (hO:A06 R O' O=Ni R O') (s:Sim B (A1 E) (A1 O) a w σ Z):Sim B (A1 E') (A1 O') a w (λn=>σ (rnm R n)) Z:=by
 simp only [Dl,Bool.and_eq_true,List.all_eq_true] at hok;obtain⟨⟨⟨k1,k2⟩,k3⟩,k4⟩:=hok;have hE':=M7 hE;have hO':=M7 hO;have lvs:∀ n o,A1 O' n=some (some o)->A1 O (rnm R n)=some (some (o.ren (rnm R))):=λn o h=>by
  have:=hO' (n,some o) (H2 h);simpa using this
 have back:∀ ns:List Nat,(∀ n∈ns,memB n (B8 O')=true)->Kj (rnm R) (A1 O) (A1 O') σ (λn=>σ (rnm R n)) ns:=λns h =>
  ⟨λn hn=>M3 (Q7 (h n hn)),λn _ hl=>by
   obtain⟨o,ho⟩:=hl;exact⟨⟨_,lvs n o ho⟩,rfl⟩⟩
 refine { s with env:=?_,obj:=?_,inj:=?_,blk:=?_,pin:=?_,shp:=?_,foot:=?_ }
 ·intro k x hk;have hm:=H2 hk;have he:=hE' (k,x) hm;obtain⟨v,h1,h2⟩:=s.env k _ he;exact⟨v,h1,h2.unren (back _ (λn hn=>k1 (k,x) hm n hn))⟩
 ·intro n o hn;have hm:=H2 hn;have hb:=k2 (n,some o) hm;simp only [List.all_eq_true] at hb;exact Ob.unren (back _ hb) rfl (s.obj _ _ (lvs n o hn))
 ·intro p q b hp hq hpb hqb;obtain⟨o,ho⟩:=hp;obtain⟨o',ho'⟩:=hq;have:=s.inj _ _ b ⟨_,lvs p o ho⟩ ⟨_,lvs q o' ho'⟩ hpb hqb;have h3:=k3 (p,some o) (H2 ho) (q,some o') (H2 ho');simp only [this,Bool.or_eq_true] at h3;rcases h3 with h3 | h3
  ·simp at h3
  ·exact Nat.eq_of_beq_eq_true h3
 ·intro n b hl hb;obtain⟨o,ho⟩:=hl;exact s.blk _ b ⟨_,lvs n o ho⟩ hb
 ·intro n b hp hl;obtain⟨o,ho⟩:=hl;have h4:=k4 (n,some o) (H2 ho);have hlt:=hB n b hp;simp only [Bool.or_eq_true] at h4;have:rnm R n=n:=by
   rcases h4 with h4 | h4
   ·have:=Nat.le_of_ble_eq_true h4;omega
   ·exact Nat.eq_of_beq_eq_true h4
  show σ (rnm R n)=b;rw [this];exact s.pin n b hp ⟨_,by have:=lvs n o ho;rwa [‹rnm R n=n›] at this⟩
 ·intro n b hp hl;obtain⟨o,ho⟩:=hl;have h4:=k4 (n,some o) (H2 ho);have hlt:=hB n b hp;simp only [Bool.or_eq_true] at h4;have:rnm R n=n:=by
   rcases h4 with h4 | h4
   ·have:=Nat.le_of_ble_eq_true h4;omega
   ·exact Nat.eq_of_beq_eq_true h4
  exact s.shp n b hp ⟨_,by have:=lvs n o ho;rwa [‹rnm R n=n›] at this⟩
 ·obtain⟨Y,h1,h2⟩:=s.foot;have hrg:∀ n,Nh (A1 O') n->Nh (A1 O) (rnm R n):=λn ⟨r,hr⟩=>⟨r,lvs n _ hr⟩;refine⟨λn=>Y (rnm R n),λn r hn=>h1 _ _ (lvs n _ hn),λn b hn hy => ?_⟩;obtain⟨g1,g2,g3,g4,g5⟩:=h2 _ b (hrg n hn) hy;refine⟨g1,g2,g3,λm ⟨o,ho⟩=>g4 _ ⟨_,lvs m o ho⟩,λm hm hmy => ?_⟩;have e:=g5 _ (hrg m hm) hmy;obtain⟨r,hr⟩:=hn;obtain⟨r',hr'⟩:=hm;have h3:=k3 (m,some (.reg r')) (H2 hr') (n,some (.reg r)) (H2 hr);simp only [e,Bool.or_eq_true] at h3;rcases h3 with h3 | h3
  ·simp at h3
  ·exact Nat.eq_of_beq_eq_true h3
theorem Ag.settle {lo:Nat} {own:Nat->Prop} {ob:Obs} (F:Ag lo own ob σ Z w) {n b:Nat} (hl:live ob n) (hb:σ n=some b):Ag lo own (B9 ob n none) σ (λq=>Z q∨q=b) w:=by
 refine F.move ⟨λ_ h => .inl h,λ_ _=>rfl⟩ (Nat.le_refl _) (λm r h=>⟨?_,rfl⟩) (λ_ _ _ _=>rfl) (λ_ _ _ _=>rfl) (λq h => ?_) λm q hm hq => .inr ⟨m,?_,hq⟩
 ·unfold B9 at h
  by_cases e:m=n
  ·rw [if_pos e] at h;simp at h
  ·rwa [if_neg e] at h
 ·rcases h with h | h
  ·exact .inl h
  ·subst h;exact .inr (.inr ⟨n,hl,hb⟩)
 ·rw [C1] at hm
  by_cases e:m=n
  ·rw [if_pos e] at hm;simp at hm
  ·rwa [if_neg e] at hm
theorem Sim.freeze {env:Env} {ob:Obs} {a:Act} {w:World} {σ:Nat->Option Nat} {Z:Nat->Prop} (s:Sim B env ob a w σ Z) {n e sz:Nat} {es:List D} (hn:ob n=some (some (.row e sz es))) {k off len:Nat} (hk:env k=some (.sref n sz off len)) (hle:off+len<=es.length) :
  ∃ Z',Sim B (upd env k (.d (.list sz ((es.drop off).take len)))) (B9 ob n none) a w σ Z':=by
 have hl:live ob n:=⟨_,hn⟩;have sk:=s.kill n;have hro:=s.obj n _ hn;obtain⟨v,hv,hr⟩:=s.env k _ hk;obtain⟨ad,c,hvv,hc1,hc2,hd⟩:=O9 hr hl;have put:∀ (Z':Nat->Prop),Sim B env (B9 ob n none) a w σ Z'->D0 (B9 ob n none) σ Z' w v (.d (.list sz ((es.drop off).take len))) ->
   Sim B (upd env k (.d (.list sz ((es.drop off).take len)))) (B9 ob n none) a w σ Z':=by
  intro Z' s' hr';refine { s' with env:=λj y hj => ?_ };unfold upd at hj
  by_cases he:j=k
  ·rw [if_pos he] at hj;cases hj;subst he;exact⟨v,hv,hr'⟩
  ·rw [if_neg he] at hj;exact s'.env j y hj
 have hlen:((es.drop off).take len).length=len:=by simp;omega
 rcases hd with ⟨k1,k2,k3,k4⟩ | ⟨b,e',hb,ha,hsh,h0⟩
 ·have hnil:len=0:=by omega
  subst hnil;refine⟨Z,put Z sk ⟨⟨ad,c,by simp [hvv],by simp,hc2,.inl (by simp)⟩,.inr (by rw [hvv];rfl)⟩⟩
 ·obtain⟨cur,cap,xs,m1,m2,m3,m4,m5,m6,m7⟩:=Ob.row_cells hro hb;obtain⟨hz,hbb⟩:=s.blk n b hl hb;have hblt:=s.lt hl hb;have s1:Sim B env (B9 ob n none) a w σ (λq=>Z q∨q=b):=by
   have hlv:∀ m,live (B9 ob n none) m->m≠n∧live ob m:=λm hm=>by
    rw [C1] at hm
    by_cases hmn:m=n
    ·rw [if_pos hmn] at hm;simp at hm
    ·rw [if_neg hmn] at hm;exact⟨hmn,hm⟩
   have m:K4 (B9 ob n none) (B9 ob n none) σ σ Z (λq=>Z q∨q=b) w w:=⟨⟨λ_ h => .inl h,λ_ _=>rfl⟩,λ_ h=>h,λ_ _ h=>⟨h,rfl⟩,λ_ _ _ _ _=>rfl⟩;refine { sk with env:=?_,obj:=?_,blk:=?_,zlt:=?_,zsub:=λq h => .inl (sk.zsub q h),znew:=?_,foot:=s.foot.settle hl hb }
   ·intro j x hj;obtain⟨u,h1,h2⟩:=sk.env j x hj;exact⟨u,h1,h2.move m⟩
   ·intro q o hq;exact Ob.rep_move m (sk.obj q o hq) rfl (λ_ _=>rfl)
   ·intro p q hp hq;obtain⟨g1,g2⟩:=sk.blk p q hp hq;refine⟨λh => ?_,g2⟩;rcases h with h | h
    ·exact g1 h
    ·subst h;exact(hlv p hp).1 (s.inj p n q (hlv p hp).2 hl hq hb)
   ·intro q h;rcases h with h | h
    ·exact sk.zlt q h
    ·subst h;exact hblt
   ·intro q h;rcases h with h | h
    ·exact sk.znew q h
    ·subst h;exact .inr hbb
  refine⟨_,put _ s1 ⟨⟨ad,c,by rw [hvv,hlen],by rw [hlen];exact hc1,hc2,?_⟩,.inr (by rw [hvv];rfl)⟩⟩
  by_cases hc0:c=0
  ·left;have hl0:len=0:=by omega
   subst hl0;simp
  ·right;have hext:Ext Z (λq=>Z q∨q=b) w w:=⟨λ_ h => .inl h,λ_ _=>rfl⟩;have hat:G6 w b 0 xs:=λj u hj=>by
    rw [Nat.zero_add,cell_of_row w b j cur e (0,0) m1];rw [<- m7,List.getElem?_take] at hj;split at hj
    ·simpa using hj
    ·cases hj
   have hE:=D.repE_of_repL es b 0 xs (D.repL_ext hext es xs m5) hro.2.1 hat;have hE2:=D.repE_take _ b (0+off*sz) len (D.repE_drop es b 0 off hE);rw [Nat.zero_add] at hE2;refine⟨b,off*sz,?_,.inr rfl,λq hq=>hro.2.1 q (List.mem_of_mem_drop (List.mem_of_mem_take hq)),hE2⟩;exact ha.resolve_left hc0
end Go.Vc
namespace Go.Vc
open Go
variable {P:Program} {B:D5} {ops:Array Oper}
def T8 (pobs:List (Nat×Ob)):Obs:=λn=>(A1 pobs n).map some
def Ob.noReg:Ob->Bool
 | .reg _=>false
 | _=>true
theorem A3s {lo:Nat} {own:Nat->Prop} {σ:Nat->Option Nat} {Z:Nat->Prop} {w:World} {pobs:List (Nat×Ob)} (h:pobs.all (λp=>p.2.noReg)=true):Ag lo own (T8 pobs) σ Z w:=Ag.empty λn r hn=>by
 simp only [T8,Option.map_eq_some_iff,Option.some.injEq] at hn;obtain⟨o,h1,h2⟩:=hn;subst h2;have:=List.all_eq_true.1 h _ (H2 h1);simp [Ob.noReg] at this
structure B6s (ob:Obs) (w:World) (σ:Nat->Option Nat) (Z:Nat->Prop) (res:V) (robs:OL) (cv:Value) (w':World) (σ':Nat->Option Nat) (Z':Nat->Prop):Prop where
 res:D0 (A1 robs) σ' Z' w' cv res
 obj:∀ n o,A1 robs n=some (some o)->o.rep (A1 robs) σ' Z' w' n
 inj:∀ n m b,live (A1 robs) n->live (A1 robs) m->σ' n=some b->σ' m=some b->n=m
 pin:∀ n,n<1000->live ob n->live (A1 robs) n->σ' n=σ n
 shp:∀ n b,n<1000->live ob n->live (A1 robs) n->σ n=some b->w'.shape? b=w.shape? b
 blk:∀ n b,live (A1 robs) n->σ' n=some b->¬ Z' b∧(w.heap.size<=b∨∃ m,live ob m∧σ m=some b)
 zlt:∀ b,Z' b->b<w'.heap.size
 zsub:∀ b,Z b->Z' b
 znew:∀ b,Z' b->Z b∨w.heap.size<=b∨∃ m,live ob m∧σ m=some b
 os:w'.os=w.os
 tape:w'.tape=w.tape
 output:w'.output=w.output
 size:w.heap.size<=w'.heap.size
 block:∀ k,k<w.heap.size->(¬ ∃ m,live ob m∧σ m=some k)->w'.heap[k]? = w.heap[k]?
structure Pre (ob:Obs) (w:World) (σ:Nat->Option Nat) (Z:Nat->Prop) (args:List V) (cargs:List Value):Prop where
 args:J8 ob σ Z w cargs args
 obj:∀ n o,ob n=some (some o)->o.rep ob σ Z w n
 inj:∀ n m b,live ob n->live ob m->σ n=some b->σ m=some b->n=m
 blk:∀ n b,live ob n->σ n=some b->¬ Z b
 zlt:∀ b,Z b->b<w.heap.size
def AC (P:Program) (f:FuncId) (args:List V) (pobs:List (Nat×Ob)) (res:V) (robs:OL):Prop :=
 ∀ (w:World) (σ:Nat->Option Nat) (Z:Nat->Prop) (cargs:List Value),Pre (T8 pobs) w σ Z args cargs ->
  Calls P f cargs.toArray w λe w'=>∃ cv σ' Z',e = .returned cv∧B6s (T8 pobs) w σ Z res robs cv w' σ' Z'
def AWp (P:Program) (B:D5) (c:Code) (Q:Exit->EL->OL->Prop) (E:EL) (O:OL):Prop :=
 ∀ (a:Act) (w:World) (σ:Nat->Option Nat) (Z:Nat->Prop),Sim B (A1 E) (A1 O) a w σ Z ->
  c.wp P (λe a' w'=>∃ E' O' σ' Z',Q e E' O'∧Sim B (A1 E') (A1 O') a' w' σ' Z') a w
section
variable {Q Q':Exit->EL->OL->Prop} {E E':EL} {O O':OL}
variable {c:Code} {effs:List Eff} {l:List Oper} {id:Nat}
theorem AWp.mono {c:Code} (h:AWp P B c Q E O) (hq:∀ e E O,Q e E O->Q' e E O):AWp P B c Q' E O:=λa w σ Z s =>
 wp_mono (h a w σ Z s) λ_ _ _ ⟨E',O',σ',Z',q,s'⟩=>⟨E',O',σ',Z',hq _ _ _ q,s'⟩
theorem AWp.skip (h:Q .normal E O):AWp P B .skip Q E O:=λ_ _ σ Z s=>wp_skip ⟨E,O,σ,Z,h,s⟩
theorem AWp.ret (h:Q .ret E O):AWp P B .ret Q E O:=λ_ _ σ Z s=>wp_ret ⟨E,O,σ,Z,h,s⟩
theorem AWp.exit (h:Q (.exit id) E O):AWp P B (.exit id) Q E O:=λ_ _ σ Z s=>wp_exit ⟨E,O,σ,Z,h,s⟩
def B6t (P:Program) (B:D5) (y:Code) (Q:Exit->EL->OL->Prop):Exit->EL->OL->Prop
 | .normal,E,O=>AWp P B y Q E O
 | e,E,O=>Q e E O
theorem AWp.seq {x y:Code} (h:AWp P B x (B6t P B y Q) E O):AWp P B (.seq x y) Q E O:=λa w σ Z s =>
 wp_seq (wp_mono (h a w σ Z s) λe a' w' ⟨E',O',σ',Z',q,s'⟩=>by
  cases e with
  | normal=>exact q a' w' σ' Z' s'
  | _=>exact⟨E',O',σ',Z',q,s'⟩)
theorem AWp.cond {t:Nat} {b:Bool} {x y:Code} (hc:A1 E t=some (.d (.bool b))) (h1:b=true->AWp P B x Q E O) (h2:b=false->AWp P B y Q E O):AWp P B (.cond (.tmp t) x y) Q E O:=λa w σ Z s=>by
 have hv:=J5 (Opd.tmp t (.d (.bool b)) B (A1 E) (A1 O) a w σ Z s (λp hp=>by simp at hp;subst hp;exact hc));exact wp_cond_split hv (λh=>h1 h a w σ Z s) (λh=>h2 h a w σ Z s)
def A07 (id:Nat) (Q:Exit->EL->OL->Prop):Exit->EL->OL->Prop
 | .exit id',E,O=>if id'=id then Q .normal E O else Q (.exit id') E O
 | e,E,O=>Q e E O
theorem AWp.block {id:Nat} {c:Code} (h:AWp P B c (A07 id Q) E O):AWp P B (.block id c) Q E O:=λa w σ Z s =>
 wp_block (wp_mono (h a w σ Z s) λe a' w' ⟨E',O',σ',Z',q,s'⟩=>by
  cases e with
  | exit id' =>
   simp only [Exit.inBlock];simp only [A07] at q;split at q
   ·rename_i he;rw [if_pos he];exact⟨E',O',σ',Z',q,s'⟩
   ·rename_i he;rw [if_neg he];exact⟨E',O',σ',Z',q,s'⟩
  | _=>exact⟨E',O',σ',Z',q,s'⟩)
def rds (P:Program) (c:Code) (Q:Exit->Act->World->Prop):Nat->Act->World->Prop
 | 0,_,_=>False
 | n+1,a,w=>c.wp P (Exit.then (rds P c Q n) Q) a w
theorem Yb {Q:Exit->Act->World->Prop} (n:Nat) (a:Act) (w:World) (h:rds P c Q n a w):(Code.loop c).wp P Q a w:=by
 classical
 have wit:∃ n,rds P c Q n a w:=⟨n,h⟩
 let mu:Act->World->Nat:=λa w=>if h:∃ n,rds P c Q n a w then Classical.choose (p:=λk=>rds P c Q k a w∧∀ m,m<k->¬ rds P c Q m a w) (by
  obtain⟨n,hn⟩:=h;induction n using Nat.strongRecOn with
  | ind n ih =>
   by_cases hm:∃ m,m<n∧rds P c Q m a w
   ·obtain⟨m,h1,h2⟩:=hm;exact ih m h1 h2
   ·exact⟨n,hn,λm h1 h2=>hm ⟨m,h1,h2⟩⟩) else 0
 have hmu:∀ a w,(∃ n,rds P c Q n a w)->rds P c Q (mu a w) a w∧∀ m,m<mu a w->¬ rds P c Q m a w:=by
  intro a w h;have:mu a w=Classical.choose (p:=λk=>rds P c Q k a w∧∀ m,m<k->¬ rds P c Q m a w) _:=dif_pos h;rw [this];exact Classical.choose_spec (p:=λk=>rds P c Q k a w∧∀ m,m<k->¬ rds P c Q m a w) _
 refine wp_loop (λa w=>∃ n,rds P c Q n a w) mu wit λa w hw => ?_;obtain⟨h1,h2⟩:=hmu a w hw;cases hk:mu a w with
 | zero=>rw [hk] at h1;exact h1.elim
 | succ k =>
  rw [hk] at h1;refine wp_mono h1 λe a' w' he => ?_;cases e with
  | normal =>
   refine⟨⟨k,he⟩,?_⟩;obtain⟨g1,g2⟩:=hmu a' w' ⟨k,he⟩;exact Nat.lt_succ_of_le (Nat.le_of_not_lt λhlt=>g2 k hlt he)
  | _=>exact he
def Mat (B:D5) (E:EL) (O:OL) (E':EL) (O':OL):Prop :=
 ∀ (a:Act) (w:World) (σ:Nat->Option Nat) (Z:Nat->Prop),Sim B (A1 E) (A1 O) a w σ Z->∃ σ' Z',Sim B (A1 E') (A1 O') a w σ' Z'
theorem Mat.refl:Mat B E O E O:=λ_ _ σ Z s=>⟨σ,Z,s⟩
theorem Mat.trans {E1 E2 E3:EL} {O1 O2 O3:OL} (h:Mat B E1 O1 E2 O2) (k:Mat B E2 O2 E3 O3):Mat B E1 O1 E3 O3:=λa w σ Z s=>by
 obtain⟨σ',Z',s'⟩:=h a w σ Z s;exact k a w σ' Z' s'
theorem AWp.loop {S X:Type} (tb:S->Option (X⊕S)) (pe:S->EL) (po:S->OL) {RX:X->Exit->EL->OL->Prop} (hround:∀ s y,tb s=some y->AWp P B c (λe E' O'=>match y with | .inr s'=>e = .normal∧Mat B E' O' (pe s') (po s') | .inl x=>e ≠ .normal∧RX x e E' O') (pe s) (po s)) :
  ∀ (n:Nat) (s:S) (x:X),(Nat.rec (motive:=λ_=>S->Option X) (λ_=>none) (λ_ ih s=>(tb s).bind fun | .inr s'=>ih s' | .inl x=>some x) n:S->Option X) s=some x ->
   AWp P B (.loop c) (RX x) (pe s) (po s):=by
 intro n s x hn a w σ Z sm;refine Yb n a w ?_;induction n generalizing s a w σ Z with
 | zero=>cases hn
 | succ n ih =>
  simp only at hn;obtain⟨y,hy,hn⟩:=Option.bind_eq_some_iff.1 hn;refine wp_mono (hround s y hy a w σ Z sm) λe a' w' ⟨E',O',σ',Z',q,s'⟩ => ?_;cases y with
  | inr t =>
   obtain⟨rfl,hm⟩:=q;obtain⟨σ'',Z'',s''⟩:=hm a' w' σ' Z' s';exact ih t hn a' w' σ'' Z'' s''
  | inl x' =>
   obtain⟨h1,h2⟩:=q;simp only [Option.some.injEq] at hn;subst hn;cases e with
   | normal=>exact absurd rfl h1
   | _=>exact⟨E',O',σ',Z',h2,s'⟩
theorem AWp.ghost {c:Code} (h:Mat B E O E' O') (hc:AWp P B c Q E' O'):AWp P B c Q E O:=λa w σ Z s=>by
 obtain⟨σ',Z',s'⟩:=h a w σ Z s;exact hc a w σ' Z' s'
theorem Mat.pat (R:List (Nat×Nat)) (E':EL) (O':OL) (hB:B.ok) (hok:Dl R E' O'=true) (hE:A9e E' E=Wu R E') (hO:A06 R O' O=Ni R O'):Mat B E O E' O' :=
 λ_ _ _ Z s=>⟨_,Z,s.pat hB R hok hE hO⟩
theorem Lk (k:Nat) (x:V) (E:EL):A1 ((k,x) :: E)=upd (A1 E) k x:=by
 funext j;rw [A4,upd]
 by_cases h:k=j
 ·subst h;simp
 ·rw [if_neg h,if_neg (Ne.symm h)]
theorem V7 (k:Nat) (x:Option Ob) (O:OL):A1 ((k,x) :: O)=B9 (A1 O) k x:=by
 funext j;rw [A4,B9]
 by_cases h:k=j
 ·subst h;simp
 ·rw [if_neg h,if_neg (Ne.symm h)]
theorem Mat.freeze {n e sz k off len:Nat} {es fs:List D} (hn:A1 O n=some (some (.row e sz es))) (hk:A1 E k=some (.sref n sz off len)) (hle:off+len<=es.length) (hfs:fs=(es.drop off).take len) :
  Mat B E O ((k,.d (.list sz fs)) :: E) ((n,none) :: O):=λa w σ Z s=>by
 obtain⟨Z',s'⟩:=s.freeze hn hk hle;exact⟨σ,Z',by rw [Lk,V7,hfs];exact s'⟩
def A5z:List Eff->EL->EL
 | [],E=>E
 | α :: l,E=>A5z l (α.wt++E)
def A60:List Eff->OL->OL
 | [],O=>O
 | α :: l,O=>A60 l (α.wo++O)
theorem M4 {α:Type} (l l':List (Nat×α)) (k:Nat):A1 (l++l') k=match A1 l k with | some x=>some x | none=>A1 l' k:=by
 induction l with
 | nil=>rfl
 | cons p l ih =>
  obtain⟨j,x⟩:=p;simp only [List.cons_append,A4]
  by_cases h:j=k
  ·simp [h]
  ·simp only [if_neg h,ih]
theorem Kn (α:Eff) (E:EL):A1 (α.wt++E)=α.env (A1 E):=by
 funext k;rw [M4];unfold Eff.env;cases A1 α.wt k<;>rfl
theorem Ko (α:Eff) (O:OL):A1 (α.wo++O)=α.obs (A1 O):=by
 funext k;rw [M4];unfold Eff.obs;cases A1 α.wo k<;>rfl
theorem Cu:∀ (l:List Eff) (E:EL),Dj l (A1 E)=A1 (A5z l E)
 | [],_=>rfl
 | α :: l,E=>by
  simp only [Dj,A5z];rw [<- Cu l (α.wt++E),Kn]
theorem Cv:∀ (l:List Eff) (O:OL),Dk l (A1 O)=A1 (A60 l O)
 | [],_=>rfl
 | α :: l,O=>by
  simp only [Dk,A60];rw [<- Cv l (α.wo++O),Ko]
def Nj:List Eff->EL->List (Option V)
 | [],_=>[]
 | α :: l,E=>α.nt.map (λp=>A1 E p.1)++Nj l (α.wt++E)
def Fl:List Eff->List (Option V)
 | []=>[]
 | α :: l=>α.nt.map (λp=>some p.2)++Fl l
def Nk:List Eff->OL->List (Option (Option Ob))
 | [],_=>[]
 | α :: l,O=>α.no.map (λp=>A1 O p.1)++(α.nf.map (λn=>A1 O n)++Nk l (α.wo++O))
def Fm:List Eff->List (Option (Option Ob))
 | []=>[]
 | α :: l=>α.no.map (λp=>some (some p.2))++(α.nf.map (λ_=>none)++Fm l)
theorem Ax:∀ (l:List Eff) (E:EL) (O:OL),Nj l E=Fl l->Nk l O=Fm l->Z6 l (A1 E) (A1 O)
 | [],_,_,_,_=>trivial
 | α :: l,E,O,h1,h2=>by
  simp only [Nj,Fl] at h1;simp only [Nk,Fm] at h2;obtain⟨a1,a2⟩:=List.append_inj h1 (by simp);obtain⟨b1,b2⟩:=List.append_inj h2 (by simp);obtain⟨c1,c2⟩:=List.append_inj b2 (by simp);have ih:=Ax l (α.wt++E) (α.wo++O) a2 c2;refine⟨⟨M7 a1,M7 b1,M7 c1⟩,?_⟩;rw [<- Kn,<- Ko];exact ih
theorem AWp.region (hj:Kh P B l.toArray l effs) (h1:Nj effs E=Fl effs) (h2:Nk effs O=Fm effs) (h:Q .normal (A5z effs E) (A60 effs O)) :
  AWp P B (.region id l.toArray false) Q E O:=λa w σ Z s =>
 wp_region_lit (Jp hj (Ax effs E O h1 h2) s λa' w' σ' Z' s'=>⟨_,_,σ',Z',h,by rw [<- Cu,<- Cv];exact s'⟩)
theorem AWp.draws (hm:P.follows .mixedOrders=true) (hj:Kh P B l.toArray l effs) (hc:Z7 l.toArray effs=true) (h1:Nj effs E=Fl effs) (h2:Nk effs O=Fm effs) (h:Q .normal (A5z effs E) (A60 effs O)) :
  AWp P B (.region id l.toArray true) Q E O:=λa w σ Z s=>by
 refine wp_region_any hm ?_;refine Ya (by simpa using hj) hc (Ax effs E O h1 h2) (λa' w' σ' Z' s'=>⟨_,_,σ',Z',h,by rw [<- Cu,<- Cv];exact s'⟩) _ _ (by simp) ?_ ?_ a _ σ Z ?_
 ·exact Nat.le_trans (List.length_filter_le _ _) (by simp)
 ·intro j o _ hS;simp only [Array.getD_eq_getD_getElem?,Array.getElem?_replicate] at hS;split at hS<;>simp at hS
 ·have hf:∀ m,(Array.replicate l.toArray.size false).getD m false=false:=λm=>by
   simp only [Array.getD_eq_getD_getElem?,Array.getElem?_replicate];split<;>rfl
  rw [Ai _ _ _ _ (λm _=>hf m),Aj _ _ _ _ (λm _=>hf m)];exact s.drew
end
inductive Res (P:Program) (E:EL) (O:OL):List ResultVar->List V->Prop
 | nil:Res P E O [] []
 | tmp {t:Nat} {v:V} {rs:List ResultVar} {vs:List V}:A1 E t=some v->(v.isTop=false)->Res P E O rs vs->Res P E O (.tmp t :: rs) (v :: vs)
 | tmpC {t:Nat} {v:V} {y:D} {rs:List ResultVar} {vs:List V}:A1 E t=some v->Co v y->Res P E O rs vs->Res P E O (.tmp t :: rs) (.d y :: vs)
 | cell {a nm bt t n:Nat} {ag:Bool} {c:V} {rs:List ResultVar} {vs:List V}:A1 E a=some (.ptr nm 0 [])->A1 O nm=some (some (.box bt c))->TyS P t n ag->c.isAgg=ag->c.sz=n->(c.isTop=false)->Res P E O rs vs->Res P E O (.cell a t :: rs) (c :: vs)
 | cellC {a nm bt t n:Nat} {ag:Bool} {c:V} {y:D} {rs:List ResultVar} {vs:List V}:A1 E a=some (.ptr nm 0 [])->A1 O nm=some (some (.box bt c))->TyS P t n ag->c.isAgg=ag->c.sz=n->Co c y->Res P E O rs vs->Res P E O (.cell a t :: rs) (.d y :: vs)
def Fn (tmps:Array Value):ResultVar->Sem Value
 | .tmp t=>pure (tmps.getD t undef)
 | .cell x t=>do loadVar t (<- asAddr (tmps.getD x undef))
theorem Yc (fn:Func) (tmps:Array Value):results fn tmps=(do
  let vs <- fn.results.mapM (Fn tmps)
  pure (if h:vs.size=1 then vs[0] else .tuple vs)):=by
 unfold results;congr 1
theorem W2 {α:Type} (f:α->Sem Value) (x:α) (l:List α) (w:World) (v:Value) (vs:List Value) (h1:(f x).run P w = .ok v w) (h2:(l.mapM f).run P w = .ok vs w):((x :: l).mapM f).run P w = .ok (v :: vs) w:=by
 rw [List.mapM_cons];simp only [Sem.run_bind,h1,h2,Result.andThen_ok,Sem.run_pure]
theorem Res.run {E:EL} {O:OL} {a:Act} {w:World} {σ:Nat->Option Nat} {Z:Nat->Prop} (s:Sim B (A1 E) (A1 O) a w σ Z):∀ {rs:List ResultVar} {vs:List V},Res P E O rs vs ->
  ∃ cs:List Value,J8 (A1 O) σ Z w cs vs∧(rs.mapM (Fn a.tmps)).run P w = .ok cs w
 | _,_,.nil=>⟨[],trivial,rfl⟩
 | _,_,.tmp (t:=t) hl hnt hr=>by
  obtain⟨cs,h2,h3⟩:=Res.run s hr;obtain⟨v,hv,hrep⟩:=s.env t _ hl;exact⟨v :: cs,⟨hrep.to hnt,h2⟩,W2 _ _ _ w v cs (by simp [Fn,hv]) h3⟩
 | _,_,.tmpC (t:=t) hl hco hr=>by
  obtain⟨cs,h2,h3⟩:=Res.run s hr;obtain⟨v,hv,hrep⟩:=s.env t _ hl;exact⟨v :: cs,⟨hco.repV (hrep.to hco.notTup),h2⟩,W2 _ _ _ w v cs (by simp [Fn,hv]) h3⟩
 | _,_,.cell (a:=x) (nm:=nm) (bt:=bt) (c:=c) hl ho ht hag hsz _ hr=>by
  obtain⟨cs,h2,h3⟩:=Res.run s hr;obtain⟨v,hv,hrep⟩:=s.env x _ hl;have hlv:live (A1 O) nm:=⟨_,ho⟩;obtain⟨b,hb,hvv⟩:=L5 hrep hlv;obtain⟨b',cells,hb',hw,hone,hsize,hc⟩:=s.obj nm _ ho;have:b'=b:=Option.some.inj (hb'.symm.trans hb);subst this;have hat:G6 w b' 0 cells.toList:=λj u hj=>by rw [Nat.zero_add,cell_of_row w b' j cells bt (0,0) hw];simpa using hj
  have hrun:=K7 ht hat (by rw [Array.length_toList,hsize,hsz]) (λh=>by subst hag;subst hsz;exact V.sz_one h);exact⟨_ :: cs,⟨F3.of_cells hc (by simpa using hsize) hone _ hag,h2⟩,W2 _ _ _ w _ cs (by simp [Fn,hv,hvv,asAddr,hrun]) h3⟩
 | _,_,.cellC (a:=x) (nm:=nm) (bt:=bt) (c:=c) hl ho ht hag hsz hco hr=>by
  obtain⟨cs,h2,h3⟩:=Res.run s hr;obtain⟨v,hv,hrep⟩:=s.env x _ hl;have hlv:live (A1 O) nm:=⟨_,ho⟩;obtain⟨b,hb,hvv⟩:=L5 hrep hlv;obtain⟨b',cells,hb',hw,hone,hsize,hc⟩:=s.obj nm _ ho;have:b'=b:=Option.some.inj (hb'.symm.trans hb);subst this;have hat:G6 w b' 0 cells.toList:=λj u hj=>by rw [Nat.zero_add,cell_of_row w b' j cells bt (0,0) hw];simpa using hj
  have hrun:=K7 ht hat (by rw [Array.length_toList,hsize,hsz]) (λh=>by subst hag;subst hsz;exact V.sz_one h);exact⟨_ :: cs,⟨hco.repV (F3.of_cells hc (by simpa using hsize) hone _ hag),h2⟩,W2 _ _ _ w _ cs (by simp [Fn,hv,hvv,asAddr,hrun]) h3⟩
def C03:List V->V
 | [v]=>v
 | vs => .tup vs
def Wv:Nat->List V->EL
 | _,[]=>[]
 | k,v :: vs=>(k,v) :: Wv (k+1) vs
theorem Ph:∀ (vs:List V) (k j:Nat),A1 (Wv k vs) j=if k<=j then vs[j-k]? else none
 | [],k,j=>by simp [Wv,A1]
 | v :: vs,k,j=>by
  simp only [Wv];rw [A4,Ph vs (k+1) j]
  by_cases h:k=j
  ·subst h;simp
  ·rw [if_neg h]
   by_cases h1:k<=j
   ·rw [if_pos (by omega),if_pos h1,show j-k=(j-(k+1))+1 from by omega,List.getElem?_cons_succ]
   ·rw [if_neg (by omega),if_neg h1]
theorem J8.get {ob:Obs} {σ:Nat->Option Nat} {Z:Nat->Prop} {w:World}:∀ {cs:List Value} {vs:List V},J8 ob σ Z w cs vs->∀ (k:Nat) (v:V),vs[k]? = some v->∃ c,cs[k]? = some c∧F3 ob σ Z w c v
 | [],[],_,_,_,h=>by simp at h
 | _ :: _,_ :: _,h,0,v,hk=>by simp at hk;subst hk;exact⟨_,rfl,h.1⟩
 | _ :: _,_ :: _,h,k+1,v,hk=>by obtain⟨c,h1,h2⟩:=J8.get h.2 k v (by simpa using hk);exact⟨c,by simpa using h1,h2⟩
 | [],_ :: _,h,_,_,_=>h.elim
 | _ :: _,[],h,_,_,_=>h.elim
theorem J8.length {ob:Obs} {σ:Nat->Option Nat} {Z:Nat->Prop} {w:World}:∀ {cs:List Value} {vs:List V},J8 ob σ Z w cs vs->cs.length=vs.length
 | [],[],_=>rfl
 | _ :: _,_ :: _,h=>by simp [J8.length h.2]
 | [],_ :: _,h=>h.elim
 | _ :: _,[],h=>h.elim
def Q4 (x:V):Bool:=!x.isTop
theorem Oq (pobs:List (Nat×Ob)):(A1 (pobs.map λp=>(p.1,some p.2)):Obs)=T8 pobs:=by
 funext n;induction pobs with
 | nil=>rfl
 | cons p l ih =>
  obtain⟨j,o⟩:=p;simp only [List.map_cons,T8] at ih ⊢;rw [A4,A4]
  by_cases h:j=n
  ·simp [h]
  ·rw [if_neg h,if_neg h];exact ih
end Go.Vc
namespace Go.Vc
open Go
variable {P:Program} {B:D5} {ops:Array Oper}
variable {R:List (Nat×Nat)} {σ σ':Nat->Option Nat} {robs:OL}
inductive Gz:List Operand->List V->List (Nat×V)->Prop
 | nil:Gz [] [] []
 | cons {x:Operand} {v:V} {nt nt':List (Nat×V)} {xs:List Operand} {vs:List V}:Opd x v nt->Gz xs vs nt'->Gz (x :: xs) (v :: vs) (nt++nt')
theorem Gz.rep {env:Env} {ob:Obs} {a:Act} {w:World} {σ:Nat->Option Nat} {Z:Nat->Prop} (s:Sim B env ob a w σ Z):∀ {xs:List Operand} {vs:List V} {nt:List (Nat×V)},Gz xs vs nt->(∀ p∈nt,env p.1=some p.2)->vs.all Q4=true ->
  J8 ob σ Z w (xs.map a.eval) vs
 | _,_,_,.nil,_,_=>trivial
 | _,_,_,.cons hx hxs,hn,ht=>by
  obtain⟨h1,h2⟩:=B4 hn;simp only [List.all_cons,Bool.and_eq_true] at ht;exact⟨(hx B env ob a w σ Z s h1).to (by simpa [Q4] using ht.1),Gz.rep s hxs h2 ht.2⟩
structure Ww (P:Program) (f:FuncId):Prop where
 get:(P.funcs[f]?).map (λfn=>(fn.name == "runtime.NumGoroutine",fn.body.isNone))=some (false,false)
theorem Ww.run {f:FuncId} (h:Ww P f) (args:Array Value) (w:World):(callFunc f args).run P w = .ok (.enter f args) w:=by
 have:=h.get;cases hf:P.funcs[f]? with
 | none=>simp [hf] at this
 | some fn =>
  simp only [hf,Option.map_some,Option.some.injEq,Prod.mk.injEq] at this;have h1:¬ fn.name = "runtime.NumGoroutine":=by simpa using this.1
  have h2:¬ fn.body=none:=λe=>by rw [e] at this;simp at this
  simp [callFunc,hf,h1,h2]
def Em (R:List (Nat×Nat)) (robs:OL):OL:=robs.map λp=>(rnm R p.1,p.2.map (Ob.ren (rnm R)))
def Tb (R:List (Nat×Nat)) (pobs:List (Nat×Ob)):List (Nat×Ob):=pobs.map λp=>(rnm R p.1,p.2.ren (rnm R))
def Z8 (R:List (Nat×Nat)) (pobs:List (Nat×Ob)) (robs:OL):List Nat:=(robs.filter λp => !memB p.1 (B8 pobs)).map λp=>rnm R p.1
def Z9 (R:List (Nat×Nat)) (args:List V) (pobs:List (Nat×Ob)) (robs:OL):Bool :=
 args.all Q4&&(args.all λv=>v.names.all λn=>memB n (B8 pobs)) &&
 (pobs.all λp=>p.2.names.all λn=>memB n (B8 pobs)) &&
 (robs.all λp=>robs.all λq => !Nat.beq (rnm R p.1) (rnm R q.1) || Nat.beq p.1 q.1) &&
 (pobs.all λp=>memB p.1 (B8 robs)&&Nat.blt p.1 1000) &&
 (robs.all λp=>memB p.1 (B8 pobs) || Nat.ble 1000 (rnm R p.1)) &&
 (robs.all λp=>match p.2 with | some o=>o.noReg | none=>true)
theorem Pi {R:List (Nat×Nat)}:∀ {robs:OL},(∀ p∈robs,∀ q∈robs,rnm R p.1=rnm R q.1->p.1=q.1)->∀ n∈B8 robs,A1 (Em R robs) (rnm R n)=(A1 robs n).map (Option.map (Ob.ren (rnm R)))
 | [],_,n,hn=>by simp [B8] at hn
 | p :: robs,hinj,n,hn=>by
  obtain⟨m,x⟩:=p;simp only [Em,List.map_cons];rw [A4,A4]
  by_cases h:m=n
  ·subst h;simp
  ·have hn':n∈B8 robs:=by
    simp only [B8,List.map_cons,List.mem_cons] at hn;rcases hn with hn | hn
    ·exact absurd hn.symm h
    ·exact hn
   have hne:rnm R m≠rnm R n:=λe=>h (by
    obtain⟨q,hq,hqn⟩:=List.mem_map.1 hn';have:=hinj (m,x) (List.mem_cons_self ..) q (List.mem_cons_of_mem _ hq) (by rw [hqn];exact e);rw [<- hqn];exact this)
   rw [if_neg hne,if_neg h];exact Pi (λp hp q hq=>hinj p (List.mem_cons_of_mem _ hp) q (List.mem_cons_of_mem _ hq)) n hn'
theorem Cw {R:List (Nat×Nat)}:∀ {robs:OL} {m:Nat},(∀ n∈B8 robs,rnm R n≠m)->A1 (Em R robs) m=none
 | [],_,_=>rfl
 | p :: robs,m,h=>by
  obtain⟨n,x⟩:=p;simp only [Em,List.map_cons];rw [A4,if_neg (h n (by simp [B8]))];exact Cw λk hk=>h k (by simp only [B8,List.map_cons,List.mem_cons];exact .inr hk)
def Ov (R:List (Nat×Nat)) (robs:OL) (σ' σ:Nat->Option Nat):Nat->Option Nat:=λm=>match robs.find? λp=>Nat.beq (rnm R p.1) m with | some p=>σ' p.1 | none=>σ m
theorem B1t (hinj:∀ p∈robs,∀ q∈robs,rnm R p.1=rnm R q.1->p.1=q.1) {n:Nat} (hn:n∈B8 robs):Ov R robs σ' σ (rnm R n)=σ' n:=by
 unfold Ov;cases hf:robs.find? λp=>Nat.beq (rnm R p.1) (rnm R n) with
 | none =>
  obtain⟨q,hq,hqn⟩:=List.mem_map.1 hn;have:=List.find?_eq_none.1 hf q hq;rw [hqn] at this;simp at this
 | some p =>
  have h1:=List.find?_some hf;have h2:=List.mem_of_find?_eq_some hf;obtain⟨q,hq,hqn⟩:=List.mem_map.1 hn;have:=hinj p h2 q hq (by rw [hqn];exact Nat.eq_of_beq_eq_true h1);simp only [this,hqn]
theorem A6h {m:Nat} (h:∀ n∈B8 robs,rnm R n≠m):Ov R robs σ' σ m=σ m:=by
 unfold Ov;have:robs.find? (λp=>Nat.beq (rnm R p.1) m)=none:=by
  refine List.find?_eq_none.2 λp hp hb=>h p.1 (List.mem_map.2 ⟨p,hp,rfl⟩) (Nat.eq_of_beq_eq_true hb)
 rw [this]
theorem Sim.call {env:Env} {ob:Obs} {a:Act} {w:World} {Z:Nat->Prop} (s:Sim B env ob a w σ Z) (hB:B.ok) {args:List V} {pobs:List (Nat×Ob)} {res:V} (hok:Z9 R args pobs robs=true) (hno:∀ p∈Tb R pobs,ob p.1=some (some p.2)) (hnf:∀ n∈Z8 R pobs robs,ob n=none) {cv:Value} {w':World} {Z':Nat->Prop} (hp:B6s (T8 pobs) w (λn=>σ (rnm R n)) Z res robs cv w' σ' Z') :
  Sim B env (λn=>match A1 (Em R robs) n with | some x=>some x | none=>ob n) a w' (Ov R robs σ' σ) Z' ∧
  D0 (λn=>match A1 (Em R robs) n with | some x=>some x | none=>ob n) (Ov R robs σ' σ) Z' w' cv (res.ren (rnm R)):=by
 simp only [Z9,Bool.and_eq_true,List.all_eq_true] at hok;obtain⟨⟨⟨⟨⟨⟨_,_⟩,_⟩,k4⟩,k5⟩,k6⟩,k7⟩:=hok;have hinj:∀ p∈robs,∀ q∈robs,rnm R p.1=rnm R q.1->p.1=q.1:=λp hpm q hq e=>by
  have:=k4 p hpm q hq;rw [e] at this;simp only [Bool.or_eq_true] at this;rcases this with h | h
  ·simp at h
  ·exact Nat.eq_of_beq_eq_true h
 let r:=rnm R
 let ob2:Obs:=λn=>match A1 (Em R robs) n with | some x=>some x | none=>ob n
 let σ2:=Ov R robs σ' σ
 show Sim B env ob2 a w' σ2 Z'∧D0 ob2 σ2 Z' w' cv (res.ren r)
 have dec:∀ m,(∃ n,n∈B8 robs∧r n=m)∨(∀ n∈B8 robs,r n≠m):=λm=>by
  by_cases h:∃ n,n∈B8 robs∧r n=m
  ·exact .inl h
  ·exact .inr λn hn e=>h ⟨n,hn,e⟩
 have ob2_in:∀ n∈B8 robs,ob2 (r n)=(A1 robs n).map (Option.map (Ob.ren r)):=λn hn=>by
  show(match A1 (Em R robs) (rnm R n) with | some x=>some x | none=>ob (rnm R n))=_
  rw [Pi hinj n hn];cases hl:A1 robs n with
  | none=>exact absurd hl (M3 hn)
  | some x=>rfl
 have ob2_out:∀ m,(∀ n∈B8 robs,r n≠m)->ob2 m=ob m:=λm h=>by
  show(match A1 (Em R robs) m with | some x=>some x | none=>ob m)=_
  rw [Cw h]
 have param:∀ n,n∈B8 pobs->∃ o,A1 pobs n=some o∧ob (r n)=some (some (o.ren r))∧n<1000∧n∈B8 robs:=λn hn=>by
  cases hl:A1 pobs n with
  | none=>exact absurd hl (M3 hn)
  | some o =>
   have hm:=H2 hl;have h5:=k5 (n,o) hm;refine⟨o,rfl,hno (rnm R n,o.ren (rnm R)) (List.mem_map.2 ⟨(n,o),hm,rfl⟩),?_,Q7 h5.1⟩;have:=h5.2;have h9:n+1<=1000:=Nat.le_of_ble_eq_true this;omega
 have newN:∀ n∈B8 robs,n∉B8 pobs->ob (r n)=none∧1000<=r n:=λn hn hnp=>by
  obtain⟨q,hq,rfl⟩:=List.mem_map.1 hn;have hb:memB q.1 (B8 pobs)=false:=by
   cases hb:memB q.1 (B8 pobs) with
   | false=>rfl
   | true=>exact absurd (Q7 hb) hnp
  refine⟨hnf _ (List.mem_map.2 ⟨q,List.mem_filter.2 ⟨hq,by simp [hb]⟩,rfl⟩),?_⟩;have:=k6 q hq;simp only [hb,Bool.or_eq_true] at this;rcases this with h | h
  ·cases h
  ·exact Nat.le_of_ble_eq_true h
 have livePob:∀ n,n∈B8 pobs->live (T8 pobs) n:=λn hn=>by
  obtain⟨o,ho,_⟩:=param n hn;exact⟨o,by simp [T8,ho]⟩
 have pobLive:∀ n,live (T8 pobs) n->n∈B8 pobs:=λn ⟨o,ho⟩=>by
  simp only [T8,Option.map_eq_some_iff] at ho;obtain⟨o',h1,_⟩:=ho;exact W1 (by rw [h1];simp)
 have live2:∀ m,live ob2 m->(∃ n,n∈B8 robs∧r n=m∧live (A1 robs) n)∨((∀ n∈B8 robs,r n≠m)∧live ob m):=λm hl=>by
  rcases dec m with ⟨n,hn,rfl⟩ | h
  ·left;obtain⟨o,ho⟩:=hl;rw [ob2_in n hn] at ho;cases hq:A1 robs n with
   | none=>exact absurd hq (M3 hn)
   | some x =>
    rw [hq] at ho;cases x with
    | none=>simp at ho
    | some o'=>exact⟨n,hn,rfl,⟨o',hq⟩⟩
  ·right;obtain⟨o,ho⟩:=hl;rw [ob2_out m h] at ho;exact⟨h,⟨o,ho⟩⟩
 have σ2_in:∀ n∈B8 robs,σ2 (r n)=σ' n:=λn hn=>B1t hinj hn;have σ2_out:∀ m,(∀ n∈B8 robs,r n≠m)->σ2 m=σ m:=λm h=>A6h h;have pinEq:∀ n,n∈B8 pobs->live (A1 robs) n->σ' n=σ (r n):=λn hn hl=>by
  obtain⟨o,ho,hob,hlt,hk⟩:=param n hn;exact hp.pin n hlt (livePob n hn) hl
 have touched:∀ m b,live ob m->σ m=some b->(∀ n∈B8 pobs,r n≠m)->w'.heap[b]? = w.heap[b]? :=λm b hl hb hm =>
  hp.block b (s.lt hl hb) λ⟨k,hk,hkb⟩=>by
   obtain⟨o,_,hob,_,_⟩:=param k (pobLive k hk);exact hm k (pobLive k hk) (s.inj _ _ b ⟨_,hob⟩ hl hkb hb)
 have zsame:∀ b,Z b->w'.heap[b]? = w.heap[b]? :=λb hz=>hp.block b (s.zlt b hz) λ⟨k,hk,hkb⟩=>by
  obtain⟨o,_,hob,_,_⟩:=param k (pobLive k hk);exact(s.blk _ b ⟨_,hob⟩ hkb).1 hz
 have m:K4 ob ob2 σ σ2 Z Z' w w':=by
  refine⟨⟨hp.zsub,zsame⟩,λn hu => ?_,λn hu hl => ?_,λn b hu hl hb => ?_⟩
  ·rcases dec n with ⟨k,hk,rfl⟩ | h
   ·unfold used;rw [ob2_in k hk];cases hq:A1 robs k with
    | none=>exact absurd hq (M3 hk)
    | some x=>simp
   ·unfold used;rw [ob2_out n h];exact hu
  ·rcases live2 n hl with ⟨k,hk,rfl,hlk⟩ | ⟨h,hl'⟩
   ·have hkp:k∈B8 pobs:=Classical.byContradiction λhc=>hu (newN k hk hc).1;obtain⟨o,_,hob,_,_⟩:=param k hkp;exact⟨⟨_,hob⟩,by rw [σ2_in k hk,pinEq k hkp hlk]⟩
   ·exact⟨hl',σ2_out n h⟩
  ·rcases live2 n hl with ⟨k,hk,rfl,hlk⟩ | ⟨h,hl'⟩
   ·have hkp:k∈B8 pobs:=Classical.byContradiction λhc=>hu (newN k hk hc).1;obtain⟨o,_,hob,hlt,_⟩:=param k hkp;exact hp.shp k b hlt (livePob k hkp) hlk hb
   ·simp only [World.shape?,touched n b hl' hb (λk hk=>h k (param k hk).choose_spec.2.2.2)]
 have fore:Wt r (A1 robs) ob2 σ' σ2:=by
  refine⟨λn hu => ?_,λn hu hl => ?_⟩
  ·have hn:n∈B8 robs:=W1 hu;unfold used;rw [ob2_in n hn];cases hq:A1 robs n with
   | none=>exact absurd hq hu
   | some x=>simp
  ·have hn:n∈B8 robs:=W1 hu;refine⟨?_,σ2_in n hn⟩;obtain⟨o,ho⟩:=hl;rw [ob2_in n hn] at ho;cases hq:A1 robs n with
   | none=>exact absurd hq hu
   | some x =>
    rw [hq] at ho;cases x with
    | none=>simp at ho
    | some o'=>exact⟨o',hq⟩
 refine⟨{ s with env:=?_,obj:=?_,inj:=?_,blk:=?_,zlt:=hp.zlt,pin:=?_,shp:=?_,os:=hp.os.trans s.os,tape:=hp.tape.trans s.tape,output:=hp.output.trans s.output,size:=Nat.le_trans s.size hp.size,zsub:=λb h=>hp.zsub b (s.zsub b h),znew:=?_,block:=?_,foot:=?_ },hp.res.doren fore⟩
 ·intro k x hk;obtain⟨v,h1,h2⟩:=s.env k x hk;exact⟨v,h1,h2.move m⟩
 ·intro q o hq;rcases live2 q ⟨o,hq⟩ with ⟨n,hn,rfl,hl⟩ | ⟨h,hl⟩
  ·obtain⟨o',ho'⟩:=hl;rw [ob2_in n hn,ho'] at hq;simp only [Option.map_some,Option.some.injEq] at hq;subst hq;exact Ob.doren fore (σ2_in n hn) (hp.obj n o' ho')
  ·rw [ob2_out q h] at hq;exact Ob.rep_move m (s.obj q o hq) (σ2_out q h) (λb hb=>touched q b ⟨o,hq⟩ hb (λk hk=>h k (param k hk).choose_spec.2.2.2))
 ·intro p q b hlp hlq hpb hqb;rcases live2 p hlp with ⟨n,hn,rfl,hl⟩ | ⟨h,hl⟩<;>rcases live2 q hlq with ⟨n',hn',rfl,hl'⟩ | ⟨h',hl'⟩
  ·rw [σ2_in n hn] at hpb;rw [σ2_in n' hn'] at hqb;rw [hp.inj n n' b hl hl' hpb hqb]
  ·rw [σ2_in n hn] at hpb;rw [σ2_out q h'] at hqb;exfalso;rcases(hp.blk n b hl hpb).2 with h1 | ⟨k,hk,hkb⟩
   ·have:=s.lt hl' hqb;omega
   ·obtain⟨o,_,hob,_,hkr⟩:=param k (pobLive k hk);exact h' k hkr (s.inj _ _ b ⟨_,hob⟩ hl' hkb hqb)
  ·rw [σ2_out p h] at hpb;rw [σ2_in n' hn'] at hqb;exfalso;rcases(hp.blk n' b hl' hqb).2 with h1 | ⟨k,hk,hkb⟩
   ·have:=s.lt hl hpb;omega
   ·obtain⟨o,_,hob,_,hkr⟩:=param k (pobLive k hk);exact h k hkr (s.inj _ _ b ⟨_,hob⟩ hl hkb hpb)
  ·rw [σ2_out p h] at hpb;rw [σ2_out q h'] at hqb;exact s.inj p q b hl hl' hpb hqb
 ·intro q b hlq hb;rcases live2 q hlq with ⟨n,hn,rfl,hl⟩ | ⟨h,hl⟩
  ·rw [σ2_in n hn] at hb;obtain⟨h1,h2⟩:=hp.blk n b hl hb;refine⟨h1,?_⟩;rcases h2 with h2 | ⟨k,hk,hkb⟩
   ·exact .inl (Nat.le_trans s.size h2)
   ·obtain⟨o,_,hob,_,_⟩:=param k (pobLive k hk);exact(s.blk _ b ⟨_,hob⟩ hkb).2
  ·rw [σ2_out q h] at hb;obtain⟨h1,h2⟩:=s.blk q b hl hb;refine⟨λhz => ?_,h2⟩;rcases hp.znew b hz with h3 | h3 | ⟨k,hk,hkb⟩
   ·exact h1 h3
   ·have:=s.lt hl hb;omega
   ·obtain⟨o,_,hob,_,hkr⟩:=param k (pobLive k hk);exact h k hkr (s.inj _ _ b ⟨_,hob⟩ hl hkb hb)
 ·intro q b hpin hlq;rcases live2 q hlq with ⟨n,hn,rfl,hl⟩ | ⟨h,hl⟩
  ·have hkp:n∈B8 pobs:=Classical.byContradiction λhc=>by have:=(newN n hn hc).2;have:=hB _ b hpin;omega
   obtain⟨o,_,hob,_,_⟩:=param n hkp;show σ2 (r n)=b;rw [σ2_in n hn,pinEq n hkp hl];exact s.pin _ b hpin ⟨_,hob⟩
  ·show σ2 q=b;rw [σ2_out q h];exact s.pin q b hpin hl
 ·intro q b hpin hlq;rcases live2 q hlq with ⟨n,hn,rfl,hl⟩ | ⟨h,hl⟩
  ·have hkp:n∈B8 pobs:=Classical.byContradiction λhc=>by have:=(newN n hn hc).2;have:=hB _ b hpin;omega
   obtain⟨o,_,hob,hlt,_⟩:=param n hkp;have hσ:=s.pin _ b hpin ⟨_,hob⟩;rw [hp.shp n b hlt (livePob n hkp) hl hσ];exact s.shp _ b hpin ⟨_,hob⟩
  ·have hσ:=s.pin q b hpin hl;rw [<- s.shp q b hpin hl];simp only [World.shape?,touched q b hl hσ (λk hk=>h k (param k hk).choose_spec.2.2.2)]
 ·intro b hz;rcases hp.znew b hz with h | h | ⟨k,hk,hkb⟩
  ·exact s.znew b h
  ·exact .inr (.inl (Nat.le_trans s.size h))
  ·obtain⟨o,_,hob,_,_⟩:=param k (pobLive k hk);exact .inr (s.blk _ b ⟨_,hob⟩ hkb).2
 ·intro k hk hown;rw [hp.block k (Nat.lt_of_lt_of_le hk s.size) λ⟨q,hq,hqb⟩=>by
   obtain⟨o,_,hob,_,_⟩:=param q (pobLive q hq);rcases(s.blk _ k ⟨_,hob⟩ hqb).2 with h | h
   ·omega
   ·exact hown h]
  exact s.block k hk hown
 ·have reg2:∀ n r',ob2 n=some (some (.reg r'))->(∀ k∈B8 robs,r k≠n)∧ob n=some (some (.reg r')):=λn r' hn=>by
   rcases dec n with ⟨k,hk,rfl⟩ | h
   ·exfalso;rw [ob2_in k hk] at hn;cases hq:A1 robs k with
    | none=>exact absurd hq (M3 hk)
    | some x =>
     rw [hq] at hn;cases x with
     | none=>simp at hn
     | some o =>
      have h7:=k7 (k,some o) (H2 hq);cases o<;>simp [Ob.ren] at hn;simp [Ob.noReg] at h7
   ·rw [ob2_out n h] at hn;exact⟨h,hn⟩
  refine s.foot.move m.ext hp.size (λn r' hn=>⟨(reg2 n r' hn).2,σ2_out n (reg2 n r' hn).1⟩) (λn b ⟨r',hn⟩ hb=>touched n b ⟨_,(reg2 n r' hn).2⟩ hb λk hk=>(reg2 n r' hn).1 k (param k hk).choose_spec.2.2.2) (λb _ hl hnn=>hp.block b hl λ⟨k,hk,hkb⟩ => ?_) (λb hz => ?_) λq b hq hb => ?_
  ·obtain⟨o,_,hob,_,_⟩:=param k (pobLive k hk);exact hnn _ ⟨_,hob⟩ hkb
  ·rcases hp.znew b hz with h | h | ⟨k,hk,hkb⟩
   ·exact .inl h
   ·exact .inr (.inl h)
   ·obtain⟨o,_,hob,_,_⟩:=param k (pobLive k hk);exact .inr (.inr ⟨_,⟨_,hob⟩,hkb⟩)
  ·rcases live2 q hq with ⟨n,hn,rfl,hl⟩ | ⟨h,hl⟩
   ·rw [σ2_in n hn] at hb;rcases(hp.blk n b hl hb).2 with h2 | ⟨k,hk,hkb⟩
    ·exact .inl h2
    ·obtain⟨o,_,hob,_,_⟩:=param k (pobLive k hk);exact .inr ⟨_,⟨_,hob⟩,hkb⟩
   ·rw [σ2_out q h] at hb;exact .inr ⟨q,hl,hb⟩
theorem Sim.pre {env:Env} {ob:Obs} {a:Act} {w:World} {σ:Nat->Option Nat} {Z:Nat->Prop} (s:Sim B env ob a w σ Z) {R:List (Nat×Nat)} {args:List V} {pobs:List (Nat×Ob)} {robs:OL} (hok:Z9 R args pobs robs=true)
  (hno:∀ p∈Tb R pobs,ob p.1=some (some p.2)) {cs:List Value} (hargs:J8 ob σ Z w cs (V.renL (rnm R) args)):Pre (T8 pobs) w (λn=>σ (rnm R n)) Z args cs:=by
 simp only [Z9,Bool.and_eq_true,List.all_eq_true] at hok;obtain⟨⟨⟨⟨⟨⟨k1,k2⟩,k3⟩,k4⟩,k5⟩,k6⟩,_⟩:=hok;have lv:∀ n o,A1 pobs n=some o->ob (rnm R n)=some (some (o.ren (rnm R))):=λn o h=>hno (rnm R n,o.ren (rnm R)) (List.mem_map.2 ⟨(n,o),H2 h,rfl⟩);have lv':∀ n,live (T8 pobs) n->∃ o,A1 pobs n=some o:=λn ⟨o,ho⟩=>by
  simp only [T8,Option.map_eq_some_iff] at ho;obtain⟨o',h1,_⟩:=ho;exact⟨o',h1⟩
 have back:∀ ns:List Nat,(∀ n∈ns,memB n (B8 pobs)=true)->Kj (rnm R) ob (T8 pobs) σ (λn=>σ (rnm R n)) ns:=λns h =>
  ⟨λn hn=>by
   have:=M3 (Q7 (h n hn));unfold used T8;cases hl:A1 pobs n with
   | none=>exact absurd hl this
   | some o=>simp,λn _ hl=>by
   obtain⟨o,ho⟩:=lv' n hl;exact⟨⟨_,lv n o ho⟩,rfl⟩⟩
 refine⟨hargs.unren (back _ ?_),λn o hn => ?_,λp q b hp hq hpb hqb => ?_,λn b hl hb => ?_,s.zlt⟩
 ·have:∀ (vs:List V),(∀ v∈vs,∀ n∈v.names,memB n (B8 pobs)=true)->∀ n∈V.namesL vs,memB n (B8 pobs)=true:=by
   intro vs;induction vs with
   | nil=>intro _ n hn;cases hn
   | cons v vs ih =>
    intro h n hn;rcases List.mem_append.1 hn with hn | hn
    ·exact h v (List.mem_cons_self ..) n hn
    ·exact ih (λv' hv'=>h v' (List.mem_cons_of_mem _ hv')) n hn
  exact this args (λv hv=>by have:=k2 v hv;simpa [List.all_eq_true] using this)
 ·simp only [T8,Option.map_eq_some_iff,Option.some.injEq] at hn;obtain⟨o',h1,h2⟩:=hn;subst h2;have hb:=k3 (n,o') (H2 h1);exact Ob.unren (back _ hb) rfl (s.obj _ _ (lv n o' h1))
 ·obtain⟨o,ho⟩:=lv' p hp;obtain⟨o',ho'⟩:=lv' q hq;have:=s.inj _ _ b ⟨_,lv p o ho⟩ ⟨_,lv q o' ho'⟩ hpb hqb;have h5:=(k5 (p,o) (H2 ho)).1;have h5':=(k5 (q,o') (H2 ho')).1;obtain⟨x,hx,hxp⟩:=List.mem_map.1 (Q7 h5);obtain⟨y,hy,hyq⟩:=List.mem_map.1 (Q7 h5');have h4:=k4 x hx y hy;rw [hxp,hyq] at h4;simp only at h4;rw [this] at h4;simp only [Bool.or_eq_true] at h4;rcases h4 with h | h
  ·simp at h
  ·exact Nat.eq_of_beq_eq_true h
 ·obtain⟨o,ho⟩:=lv' n hl;exact(s.blk _ b ⟨_,lv n o ho⟩ hb).1
section
variable {d:Nat} {ty:TypeId} {pos:String} {af:Array Edge} {nt nt':List (Nat×V)}
def U3 (nt:List (Nat×V)) (d:Nat) (R:List (Nat×Nat)) (pobs:List (Nat×Ob)) (res:V) (robs:OL):Eff :=
 { nt,no:=Tb R pobs,nf:=Z8 R pobs robs,wt:=[(d,res.ren (rnm R))],wo:=Em R robs }
theorem OpJ.callFn {f:FuncId} {xs:List Operand} {ts:Array TypeId} {args:List V} {pobs:List (Nat×Ob)} {res:V} {robs:OL} (hB:B.ok) (hfn:Ww P f) (hac:AC P f args pobs res robs) (R:List (Nat×Nat)) (hok:Z9 R args pobs robs=true) (hN:d<B.N)
  (hnt:(V.renL (rnm R) args).all Q4=true) (hx:Gz xs (V.renL (rnm R) args) nt) :
  OpJ P B ops ⟨some d,.call { callee:=.value (.func f),args:=xs.toArray,argTypes:=ts },ty,pos,af,none⟩ (U3 nt d R pobs res robs):=by
 intro Q env ob a w σ Z K s hn hK;have hargs:=hx.rep s hn.1 hnt;have pre:=s.pre hok hn.2.1 hargs;have hrun:(execOp a.eval ⟨some d,.call { callee:=.value (.func f),args:=xs.toArray,argTypes:=ts },ty,pos,af,none⟩).run P w = .ok (.enter f (xs.map a.eval).toArray) w:=by
  simp only [execOp,resolve,Act.eval,Deferred.ofValue,Sem.run_bind,Sem.run_pure,Result.andThen_ok,invoke,List.map_toArray,Array.empty_append,Array.append_empty,hfn.run]
 rw [if_pos (by simp [Region.wanted])];unfold Oper.wp;rw [hrun,Oper.upon_enter];refine(hac w _ Z _ pre).mono λe w' ⟨cv,σ',Z',he,hp⟩ => ?_;subst he;obtain⟨s',hr⟩:=s.call hB hok hn.2.1 hn.2.2 hp;refine hK _ _ (Ov R robs σ' σ) Z' ?_;rw [O8 _ rfl];exact s'.put hN hr
theorem OpJ.callFn0 {f:FuncId} {xs:List Operand} {ts:Array TypeId} {args:List V} {pobs:List (Nat×Ob)} {res:V} (hB:B.ok) (hfn:Ww P f) (hac:AC P f args pobs res robs) (R:List (Nat×Nat)) (hok:Z9 R args pobs robs=true) (hnt:(V.renL (rnm R) args).all Q4=true) (hx:Gz xs (V.renL (rnm R) args) nt) :
  OpJ P B ops ⟨none,.call { callee:=.value (.func f),args:=xs.toArray,argTypes:=ts },ty,pos,af,none⟩ { U3 nt 0 R pobs res robs with wt:=[] }:=by
 intro Q env ob a w σ Z K s hn hK;have hargs:=hx.rep s hn.1 hnt;have pre:=s.pre hok hn.2.1 hargs;have hrun:(execOp a.eval ⟨none,.call { callee:=.value (.func f),args:=xs.toArray,argTypes:=ts },ty,pos,af,none⟩).run P w = .ok (.enter f (xs.map a.eval).toArray) w:=by
  simp only [execOp,resolve,Act.eval,Deferred.ofValue,Sem.run_bind,Sem.run_pure,Result.andThen_ok,invoke,List.map_toArray,Array.empty_append,Array.append_empty,hfn.run]
 rw [if_pos (by simp [Region.wanted])];unfold Oper.wp;rw [hrun,Oper.upon_enter];refine(hac w _ Z _ pre).mono λe w' ⟨cv,σ',Z',he,hp⟩ => ?_;subst he;obtain⟨s',hr⟩:=s.call hB hok hn.2.1 hn.2.2 hp;refine hK _ _ (Ov R robs σ' σ) Z' ?_;rw [Lj _ rfl];exact s'
theorem Jr (r:Nat->Nat):∀ (xs ys:List V),V.renL r (xs++ys)=V.renL r xs++V.renL r ys
 | [],_=>rfl
 | x :: xs,ys=>by simp only [List.cons_append,V.renL,Jr r xs ys]
theorem OpJ.callVal {t:Nat} {f:FuncId} {caps:List V} {xs:List Operand} {ts:Array TypeId} {args:List V} {pobs:List (Nat×Ob)} {res:V} {robs:OL} (hB:B.ok) (hfn:Ww P f) (R:List (Nat×Nat)) (hac:AC P f (args++caps) pobs res robs) (hok:Z9 R (args++caps) pobs robs=true) (hN:d<B.N)
  (hnt:(V.renL (rnm R) args).all Q4=true) (hcap:(V.renL (rnm R) caps).all (λv => !v.isAgg)=true) (hx:Gz xs (V.renL (rnm R) args) nt) :
  OpJ P B ops ⟨some d,.call { callee:=.value (.tmp t),args:=xs.toArray,argTypes:=ts },ty,pos,af,none⟩ (U3 (nt++[(t,.func f (V.renL (rnm R) caps))]) d R pobs res robs):=by
 intro Q env ob a w σ Z K s hn hK;obtain⟨n1,n2⟩:=B4 hn.1;have hargs:=hx.rep s n1 hnt;have hf:=Opd.tmp t (.func f (V.renL (rnm R) caps)) B env ob a w σ Z s n2;obtain⟨cvs,hv,hreps⟩:=(And.left hf);have hv':a.eval (.tmp t) = .func (.func f) #[] cvs.toArray:=by simpa using hv
 have hcs:∀ (vs:List V) (cs:List Value),V.repL ob σ Z w vs cs->vs.all (λv => !v.isAgg)=true->J8 ob σ Z w cs vs:=by
  intro vs;induction vs with
  | nil=>intro cs h _;cases h;trivial
  | cons v vs ih =>
   intro cs h ht;obtain⟨c,rest,e,g0,g1,g2⟩:=h;subst e;simp only [List.all_cons,Bool.and_eq_true,Bool.not_eq_true'] at ht;refine⟨?_,ih rest g2 ht.2⟩;unfold F3;rw [if_neg (by simp [ht.1])];exact⟨g1,.inr g0⟩
 have happ:∀ (v1 v2:List V) (c1 c2:List Value),J8 ob σ Z w c1 v1->J8 ob σ Z w c2 v2->J8 ob σ Z w (c1++c2) (v1++v2):=by
  intro v1;induction v1 with
  | nil=>intro v2 c1 c2 h k;cases c1 with | nil=>exact k | cons _ _=>exact h.elim
  | cons v v1 ih=>intro v2 c1 c2 h k;cases c1 with | nil=>exact h.elim | cons c c1=>exact⟨h.1,ih v2 c1 c2 h.2 k⟩
 have pre:=s.pre hok hn.2.1 (by rw [Jr];exact happ _ _ _ _ hargs (hcs _ _ hreps hcap));have hrun:(execOp a.eval ⟨some d,.call { callee:=.value (.tmp t),args:=xs.toArray,argTypes:=ts },ty,pos,af,none⟩).run P w = .ok (.enter f (xs.map a.eval++cvs).toArray) w:=by
  have he:(#[]++(xs.map a.eval).toArray)++cvs.toArray=(xs.map a.eval++cvs).toArray:=by simp
  simp only [execOp,resolve,hv',Deferred.ofValue,Sem.run_bind,Sem.run_pure,Result.andThen_ok,invoke,List.map_toArray,he,hfn.run]
 rw [if_pos (by simp [Region.wanted])];unfold Oper.wp;rw [hrun,Oper.upon_enter];refine(hac w _ Z _ pre).mono λe w' ⟨cv,σ',Z',he,hp⟩ => ?_;subst he;obtain⟨s',hr⟩:=s.call hB hok hn.2.1 hn.2.2 hp;refine hK _ _ (Ov R robs σ' σ) Z' ?_;rw [O8 _ rfl];exact s'.put hN hr
end
end Go.Vc
namespace Go.Vc
open Go
variable {P:Program} {B:D5} {ops:Array Oper}
theorem OpJ.val {o:Oper} {nt:List (Nat×V)} {no:List (Nat×Ob)} {nf:List Nat} {d:Nat} {v v':V} {wo:OL} (e:v=v') (h:OpJ P B ops o { nt,no,nf,wt:=[(d,v)],wo }):OpJ P B ops o { nt,no,nf,wt:=[(d,v')],wo }:=e ▸ h
section
variable {d:Nat} {ty:TypeId} {pos:String} {af:Array Edge} {nt nt':List (Nat×V)} {x y c:Operand}
variable {b g z:Bool} {k:Nat}
def V.isOpt:V->Bool
 | .opt .. => true
 | _=>false
inductive A08 (g:Bool):List (Nat×V)->List (Nat×V)->Prop
 | nil:A08 g [] []
 | keep {t:Nat} {v:V} {l l':List (Nat×V)}:v.isOpt=false->A08 g l l'->A08 g ((t,v) :: l) ((t,v) :: l')
 | opt {t:Nat} {v:V} {l l':List (Nat×V)}:A08 g l l'->A08 g ((t,v) :: l) ((t,.opt g v) :: l')
def deopt (env:Env):Env:=λk=>match env k with
 | some (.opt true x)=>some x
 | o=>o
theorem Um {env:Env} {v:V} (h:env k=some v) (hv:v.isOpt=false):deopt env k=some v:=by
 unfold deopt;rw [h];cases v<;>simp_all [V.isOpt]
theorem A3t {env:Env} {v:V} (h:env k=some (.opt true v)):deopt env k=some v:=by
 unfold deopt;rw [h]
theorem A08.needs {env:Env}:∀ {l l':List (Nat×V)},A08 true l l'->(∀ p∈l',env p.1=some p.2)->∀ p∈l,deopt env p.1=some p.2
 | _,_,.nil,_,_,h=>by cases h
 | _,_,.keep hv h,hn,p,hp=>by
  rcases List.mem_cons.1 hp with hp | hp
  ·subst hp;exact Um (hn _ (List.mem_cons_self ..)) hv
  ·exact h.needs (λq hq=>hn q (List.mem_cons_of_mem _ hq)) p hp
 | _,_,.opt h,hn,p,hp=>by
  rcases List.mem_cons.1 hp with hp | hp
  ·subst hp;exact A3t (hn _ (List.mem_cons_self ..))
  ·exact h.needs (λq hq=>hn q (List.mem_cons_of_mem _ hq)) p hp
theorem F3.notTop {ob:Obs} {σ:Nat->Option Nat} {Z:Nat->Prop} {w:World} {v:Value} {x:V} (h:F3 ob σ Z w v x):x.isTop=false:=by
 cases x with
 | tup xs=>simp [F3,V.isAgg,V.rep] at h
 | opt g y=>simp [F3,V.isAgg,V.rep] at h
 | _=>rfl
theorem Sim.deopt {env:Env} {ob:Obs} {a:Act} {w:World} {σ:Nat->Option Nat} {Z:Nat->Prop} (s:Sim B env ob a w σ Z):Sim B (deopt env) ob a w σ Z:=by
 refine { s with env:=?_ };intro k x hk;unfold Vc.deopt at hk;cases he:env k with
 | none=>rw [he] at hk;cases hk
 | some y =>
  obtain⟨v,h1,h2⟩:=s.env k y he;rw [he] at hk
  by_cases hy:∃ z,y = .opt true z
  ·obtain⟨z,rfl⟩:=hy;simp only [Option.some.injEq] at hk;subst hk;exact⟨v,h1,D0.of (h2.1 rfl) (h2.1 rfl).notTop⟩
  ·have:y=x:=by
    cases y with
    | opt g z=>cases g with
     | true=>exact absurd ⟨z,rfl⟩ hy
     | false=>simpa using hk
    | _=>simpa using hk
   subst this;exact⟨v,h1,h2⟩
inductive A9f (want:Bool):V->Bool->Prop
 | plain (b:Bool):A9f want (.d (.bool b)) (b==want)
 | opt (g b:Bool):A9f want (.opt g (.d (.bool b))) (g&&(b==want))
theorem OpJ.pickOr (hg:g=(b==false)) (hN:d<B.N) (hc:Opd c (.d (.bool b)) nt) (hy:Opd y (.opt g (.d (.bool z))) nt') :
  OpJ P B ops ⟨some d,.pick c (.const (.bool true)) y,ty,pos,af,none⟩ { nt:=nt++nt',wt:=[(d,.d (.bool (b || z)))] } :=
 OpJ.pure rfl rfl hN λenv ob a w σ Z s h=>by
  obtain⟨h1,h2⟩:=B4 h;have e1:=J5 (hc B env ob a w σ Z s h1);have e2:=hy B env ob a w σ Z s h2;subst hg;cases b with
  | true =>
   have e0:a.eval (.const (.bool true)) = .bool true:=rfl;exact⟨.bool true,by simp [execOp,e1,e0,asBool],H3 _⟩
  | false =>
   have:a.eval y = .bool z:=by simpa [V.rep,D.rep] using And.left (e2.1 rfl)
   exact⟨.bool z,by simp [execOp,e1,asBool,this],by simpa using H3 z⟩
theorem OpJ.pickAnd (hg:g=(b==true)) (hN:d<B.N) (hc:Opd c (.d (.bool b)) nt) (hy:Opd y (.opt g (.d (.bool z))) nt') :
  OpJ P B ops ⟨some d,.pick c y (.const (.bool false)),ty,pos,af,none⟩ { nt:=nt++nt',wt:=[(d,.d (.bool (b&&z)))] } :=
 OpJ.pure rfl rfl hN λenv ob a w σ Z s h=>by
  obtain⟨h1,h2⟩:=B4 h;have e1:=J5 (hc B env ob a w σ Z s h1);have e2:=hy B env ob a w σ Z s h2;subst hg;cases b with
  | false =>
   have e0:a.eval (.const (.bool false)) = .bool false:=rfl;exact⟨.bool false,by simp [execOp,e1,e0,asBool],H3 _⟩
  | true =>
   have:a.eval y = .bool z:=by simpa [V.rep,D.rep] using And.left (e2.1 rfl)
   exact⟨.bool z,by simp [execOp,e1,asBool,this],by simpa using H3 z⟩
end
mutual
def D.beq:D->D->Bool
 | .bool a,.bool b=>a==b
 | .int _ a,.int _ b=>a==b
 | .str a,.str b=>a==b
 | .st xs,.st ys=>D.beqL xs ys
 | .arr _ _ xs,.arr _ _ ys=>D.beqL xs ys
 | _,_=>false
def D.beqL:List D->List D->Bool
 | [],[]=>true
 | x :: xs,y :: ys=>D.beq x y&&D.beqL xs ys
 | _,_=>false
end
section
variable {Q:Exit->EL->OL->Prop} {E E':EL} {O O':OL}
def C04 (B:D5) (Q:Exit->EL->OL->Prop) (E':EL) (O':OL):Prop:=∀ (E:EL) (O:OL),Mat B E O E' O'->Q .normal E O
def jn {M T:Type} (rest:M->Option T) (body:(M->Option T)->Option T):Option T:=body rest
theorem B5b {y:Code} (h:AWp P B y Q E O):B6t P B y Q .normal E O:=h
end
variable {b:Bool} {i:Int} {n:Nat} {S X α β:Type} {xs:List α} {s:S} {tb:S->Option (X⊕S)} {r x y:α}
def idx (xs:List α) (i:Int):Option α:=if 0<=i then xs[i.toNat]? else none
theorem P8 (h:idx xs i=some x):0<=i∧xs[i.toNat]? = some x:=by
 unfold idx at h;split at h
 ·rename_i h0;exact⟨h0,h⟩
 ·cases h
theorem B1u (f:α->β) (h:xs[n]? = some x):(xs.map f)[n]? = some (f x):=by rw [List.getElem?_map,h];rfl
theorem Yd (h:idx xs i=some x):i.toNat<xs.length:=(List.getElem?_eq_some_iff.1 (P8 h).2).1
def chk {α:Type} (p:Bool) (k:Option α):Option α:=if p then k else none
theorem N3 {p:Bool} {k:Option α} (h:chk p k=some y):p=true∧k=some y:=by
 unfold chk at h;cases p<;>simp_all
theorem A1o (hb:b=true) (h:(if b=true then x else y)=r):x=r:=by rw [if_pos hb] at h;exact h
theorem A1p (hb:b=false) (h:(if b=true then x else y)=r):y=r:=by rw [if_neg (by rw [hb];simp)] at h;exact h
theorem A33 {o:Option α} {f:α->Option β} {y:β} (h:o.bind f=some y):∃ x,o=some x∧f x=some y:=Option.bind_eq_some_iff.1 h
def K5 {S X:Type} (tb:S->Option (X⊕S)):Nat->S->Option X
 | 0,_=>none
 | n+1,s=>(tb s).bind fun
  | .inr s'=>K5 tb n s'
  | .inl x=>some x
open Classical in
noncomputable def loop {S X:Type} (tb:S->Option (X⊕S)) (s:S):Option X:=if h:∃ n x,K5 tb n s=some x then some (Classical.choose (Classical.choose_spec h)) else none
theorem Pj {x:X} (h:loop tb s=some x):∃ n,K5 tb n s=some x:=by
 unfold loop at h;split at h
 ·rename_i hx;refine⟨Classical.choose hx,?_⟩;rw [Classical.choose_spec (Classical.choose_spec hx),h]
 ·cases h
theorem Pk {S X:Type} {tb:S->Option (X⊕S)}:∀ (n:Nat) (s:S) (x:X),K5 tb n s=some x->K5 tb (n+1) s=some x
 | 0,_,_,h=>by cases h
 | n+1,s,x,h=>by
  rw [K5] at h ⊢;obtain⟨y,h1,h2⟩:=A33 h;rw [h1];cases y with
  | inl z=>exact h2
  | inr s'=>exact Pk n s' x h2
theorem Kp {m:Nat} {x:X} (hm:n<=m) (h:K5 tb n s=some x):K5 tb m s=some x:=by
 induction m with
 | zero=>rw [Nat.le_zero.1 hm] at h;exact h
 | succ m ih =>
  rcases Nat.lt_or_ge m n with h1 | h1
  ·rwa [show m+1=n from by omega]
  ·exact Pk m s x (ih h1)
theorem Rn {S X:Type} {tb:S->Option (X⊕S)} {n:Nat} {s:S} {x:X} (h:K5 tb n s=some x):loop tb s=some x:=by
 unfold loop;have hx:∃ n x,K5 tb n s=some x:=⟨n,x,h⟩;rw [dif_pos hx];have h2:=Classical.choose_spec (Classical.choose_spec hx);have e1:=Kp (Nat.le_max_left n (Classical.choose hx)) h;have e2:=Kp (Nat.le_max_right n (Classical.choose hx)) h2;rw [e1] at e2;exact congrArg some (Option.some.inj e2).symm
theorem Un {x:X} (h:tb s=some (.inl x)):loop tb s=some x:=Rn (n:=1) (by simp [K5,h])
theorem A3u {s':S} {x:X} (h:tb s=some (.inr s')) (h':loop tb s'=some x):loop tb s=some x:=by
 obtain⟨n,hn⟩:=Pj h';exact Rn (n:=n+1) (by simp [K5,h,hn])
theorem B1v {S X:Type} (tb:S->Option (X⊕S)) (n:Nat) (s:S):K5 tb n s=(Nat.rec (motive:=λ_=>S->Option X) (λ_=>none) (λ_ ih s=>(tb s).bind fun | .inr s'=>ih s' | .inl x=>some x) n:S->Option X) s:=by
 induction n generalizing s with
 | zero=>rfl
 | succ n ih =>
  rw [K5];congr 1;funext y;cases y with
  | inl x=>rfl
  | inr s'=>exact ih s'
section
variable {Q:Exit->EL->OL->Prop} {E:EL} {O:OL}
end
def eB (b:Bool):D:=.bool b
def eI (k:IntKind) (n:Int):D:=.int k n
def w64 (n:Int):Int:=IntKind.i64.wrap n
def LIM:Nat:=4294967296
end Go.Vc
