/- Part of the proof that 'TopResolves' holds of every input: no condition. -/
import Derived.Test.YtalojkjpjdcibaaGreatDoorXAA
import Derived.Laws.MakeOwn
namespace Go.Vc
open Go
variable {P:Program} {B:Base} {ops:Array Oper}

-- values that are read as other values

mutual
inductive Co:V→D→Prop
  | d (x:D):Co (.d x) x
  | nils (sz:Nat):Co .nils (.list sz [])
  | st {fs:List V} {ds:List D}:CoL fs ds→Co (.st fs) (.st ds)
inductive CoL:List V→List D→Prop
  | nil:CoL [] []
  | cons {f:V} {d:D} {fs:List V} {ds:List D}:Co f d→CoL fs ds→CoL (f :: fs) (d :: ds)
end

section
variable {ob:Obs} {σ:Nat→Option Nat} {Z:Nat→Prop} {w:World}
mutual
theorem Co.rep:∀ {x:V} {y:D} {cs:List Value},Co x y→V.rep ob σ Z w x cs→D.rep Z w y cs
  | _,_,_,.d _,h=>h
  | _,_,_,.nils sz,h=>by cases h;exact⟨none,0,rfl,Nat.le_refl _,by omega,.inl rfl⟩
  | _,_,_,.st hl,h=>CoL.rep hl h
theorem CoL.rep:∀ {xs:List V} {ys:List D} {cs:List Value},CoL xs ys→V.repS ob σ Z w xs cs→D.repL Z w ys cs
  | _,_,_,.nil,h=>h
  | _,_,_,.cons h1 h2,h=>by
    obtain⟨c1,c2,e,_,_,g1,g2⟩:=h;exact⟨c1,c2,e,h1.rep g1,h2.rep g2⟩
end
theorem Co.agg {x:V} {y:D} (h:Co x y):x.isAgg=y.isAgg:=by cases h<;>rfl
theorem Co.repV {x:V} {y:D} {v:Value} (h:Co x y) (hr:RepV ob σ Z w v x):RepV ob σ Z w v (.d y):=by
  unfold RepV at *;have e:(V.d y).isAgg=x.isAgg:=h.agg.symm;rw [e]
  by_cases hx:x.isAgg=true
  · rw [if_pos hx] at hr ⊢;obtain⟨cs,h1,h2⟩:=hr;exact⟨cs,h1,h.rep h2⟩
  · rw [if_neg hx] at hr ⊢;refine⟨h.rep hr.1,.inr ?_⟩;rcases hr.2 with h2 | h2
    · subst h2;cases h
    · exact h2
theorem Co.notTup {x:V} {y:D} (h:Co x y):x.isTop=false:=by cases h<;>rfl
theorem Co.repT {x:V} {y:D} {v:Value} (h:Co x y) (hr:RepT ob σ Z w v x):RepT ob σ Z w v (.d y):=RepT.of (h.repV (hr.to h.notTup)) rfl
end
theorem Opd.co {x:Operand} {v:V} {y:D} {nt:List (Nat×V)} (h:Co v y) (hx:Opd x v nt):Opd x (.d y) nt:=fun B env ob a w σ Z s hn=>h.repT (hx B env ob a w σ Z s hn)

-- values without memory

mutual
def D.enc:D→List Value
  | .bool b=>[.bool b]
  | .int k n=>[.int k n]
  | .str s=>[.string ⟨s.toArray⟩]
  | .st fs=>D.encL fs
  | .arr _ _ es=>D.encL es
  | .list _ _=>[.slice none 0 0]
  | .imap _=>[.map none]
def D.encL:List D→List Value
  | []=>[]
  | f :: fs=>D.enc f++D.encL fs
end
mutual
def D.plain:D→Bool
  | .st fs=>D.plainL fs
  | .arr n sz es=>Nat.beq es.length n&&D.plainL es&&D.szs sz es
  | .list _ es=>es.isEmpty
  | .imap _=>false
  | _=>true
def D.plainL:List D→Bool
  | []=>true
  | f :: fs=>D.plain f&&D.plainL fs
def D.szs:Nat→List D→Bool
  | _,[]=>true
  | sz,f :: fs=>Nat.beq f.sz sz&&D.szs sz fs
end
theorem D.szs_spec {sz:Nat}:∀ {es:List D},D.szs sz es=true→∀ e∈es,e.sz=sz
  | [],_,_,h=>by cases h
  | x :: es,h,e,he=>by
    simp only [D.szs,Bool.and_eq_true] at h;rcases List.mem_cons.1 he with he | he
    · subst he;exact Nat.eq_of_beq_eq_true h.1
    · exact D.szs_spec h.2 e he
mutual
theorem D.rep_enc {Z:Nat→Prop} {w:World}:∀ (x:D),x.plain=true→D.rep Z w x x.enc
  | .bool _,_=>rfl
  | .int _ _,_=>rfl
  | .str _,_=>rfl
  | .st fs,h=>D.repL_enc fs h
  | .arr n sz es,h=>by
    simp only [D.plain,Bool.and_eq_true] at h;exact⟨Nat.eq_of_beq_eq_true h.1.1,D.szs_spec h.2,D.repL_enc es h.1.2⟩
  | .list _ es,h=>by
    have:es=[]:=by simpa [D.plain] using h
    subst this;exact⟨none,0,rfl,Nat.le_refl _,by omega,.inl rfl⟩
  | .imap _,h=>by cases h
theorem D.repL_enc {Z:Nat→Prop} {w:World}:∀ (xs:List D),D.plainL xs=true→D.repL Z w xs (D.encL xs)
  | [],_=>rfl
  | x :: xs,h=>by
    simp only [D.plainL,Bool.and_eq_true] at h;exact⟨_,_,rfl,D.rep_enc x h.1,D.repL_enc xs h.2⟩
end
mutual
/-- a zero: data, or nil, or a struct of them -/
def V.enc:V→List Value
  | .d x=>x.enc
  | .nils=>[.slice none 0 0]
  | .st fs=>V.encL fs
  | .cst v=>[v]
  | _=>[]
def V.encL:List V→List Value
  | []=>[]
  | f :: fs=>V.enc f++V.encL fs
end
mutual
def V.plain:V→Bool
  | .d x=>x.plain
  | .nils=>true
  | .st fs=>V.plainL fs
  | .cst v=>v.oneCell'
  | _=>false
def V.plainL:List V→Bool
  | []=>true
  | f :: fs=>V.plain f&&V.plainL fs
end
mutual
theorem V.rep_enc {ob:Obs} {σ:Nat→Option Nat} {Z:Nat→Prop} {w:World}:∀ (x:V),x.plain=true→V.rep ob σ Z w x x.enc∧x.enc.length=x.sz∧∀ u∈x.enc,u.oneCell'=true
  | .d x,h=>by
    have h1:=D.rep_enc (Z:=Z) (w:=w) x h;exact⟨h1,D.rep_len x _ h1,D.rep_one x _ h1⟩
  | .nils,_=>by simp [V.rep,V.enc,V.sz,Value.oneCell']
  | .st fs,h=>V.repS_enc fs h
  | .junk,h=>by simp [V.plain] at h
  | .ptr ..,h=>by simp [V.plain] at h
  | .dptr _,h=>by simp [V.plain] at h
  | .sref ..,h=>by simp [V.plain] at h
  | .func ..,h=>by simp [V.plain] at h
  | .tup _,h=>by simp [V.plain] at h
  | .opt ..,h=>by simp [V.plain] at h
  | .mref _,h=>by simp [V.plain] at h
  | .full ..,h=>by simp [V.plain] at h
  | .cst v,h=>⟨⟨rfl,h⟩,rfl,fun u hu=>by simp [V.enc] at hu;subst hu;exact h⟩
  | .sat _,h=>by simp [V.plain] at h
theorem V.repS_enc {ob:Obs} {σ:Nat→Option Nat} {Z:Nat→Prop} {w:World}:∀ (xs:List V),V.plainL xs=true→V.repS ob σ Z w xs (V.encL xs)∧(V.encL xs).length=V.szL xs∧∀ u∈V.encL xs,u.oneCell'=true
  | [],_=>by simp [V.repS,V.encL,V.szL]
  | x :: xs,h=>by
    simp only [V.plainL,Bool.and_eq_true] at h;obtain⟨h1,h2,h3⟩:=V.rep_enc (ob:=ob) (σ:=σ) (Z:=Z) (w:=w) x h.1;obtain⟨g1,g2,g3⟩:=V.repS_enc (ob:=ob) (σ:=σ) (Z:=Z) (w:=w) xs h.2;refine⟨⟨_,_,rfl,h2,h3,h1,g1⟩,by simp [V.encL,V.szL,h2,g2],fun u hu => ?_⟩;rcases List.mem_append.1 hu with hu | hu
    · exact h3 u hu
    · exact g3 u hu
end

structure TyZ (P:Program) (t:TypeId) (z:V):Prop where
  plain:z.plain=true
  run:∀ w,(zeroValue t).run P w = .ok (valOf z.isAgg z.enc) w

theorem TyZ.cells {t:TypeId} {z:V} (h:TyZ P t z):(valOf z.isAgg z.enc).cells.toList=z.enc:=by
  obtain⟨_,h2,h3⟩:=V.rep_enc (ob:=fun _=>none) (σ:=fun _=>none) (Z:=fun _=>False) (w:=default) z h.plain;cases hz:z.isAgg with
  | true=>simp [valOf,Value.cells]
  | false =>
    have:=h2.trans (V.sz_one hz)
    match hc:z.enc,this with
    | [c],_ =>
      have:c.oneCell'=true:=h3 c (by simp [hc]);cases c<;>first | rfl | simp [Value.oneCell'] at this

section
variable {d:Nat} {x y i:Operand} {ty:TypeId} {pos:String} {af:Array Edge} {nt nt':List (Nat×V)}

theorem H9 (w:World) (t:TypeId) (cs:Array Value):(newRow t cs).run P w = .ok ⟨w.heap.size,0,none⟩ (w.alloc (.cells cs t)):=by
  simp [newRow,newObj,Sem.run]

theorem OpJ.alloc {t:TypeId} {z:V} (hB:B.ok) (hz:TyZ P t z) {nm:Nat} (hnm:1000≤nm) (hN:d<B.N) :
    OpJ P B ops ⟨some d,.alloc t,ty,pos,af,none⟩ { nf:=[nm],wt:=[(d,.ptr nm 0 [])],wo:=[(nm,some (.box t z))] } :=
  OpJ.run rfl rfl hN rfl fun env ob a w σ Z sm hne=>by
    have hn:ob nm=none:=hne.2.2 nm (by simp);obtain⟨h1,h2,h3⟩:=V.rep_enc (ob:=ob) (σ:=σ) (Z:=Z) (w:=w) z hz.plain;have hc:=hz.cells;have s':=sm.newObj hB hn hnm (o:=.box t z) (c:=.cells (valOf z.isAgg z.enc).cells t) fun ob' σ' m hs=>⟨w.heap.size,_,hs,heap_alloc_new w _,by rw [hc];exact h3,by rw [← Array.length_toList,hc];exact h2,by rw [hc];exact V.rep_move m z _ h1⟩;refine⟨.pointer (some ⟨w.heap.size,0,none⟩),_,_,_,?_,by rw [C9 _ rfl];exact s',by rw [C9 _ rfl];exact X8 (by rw [A6];simp) (by simp [updS])⟩;simp only [execOp,Instr.alloc,Sem.run_bind,hz.run,Result.andThen_ok,newVar,H9,Sem.run_pure]

theorem OpJ.box {t:TypeId} {v:V} (hB:B.ok) {nm:Nat} (hnm:1000≤nm) (hj:v ≠ .junk) (hnt:v.isTop=false) (hN:d<B.N) (hx:Opd x v nt) :
    OpJ P B ops ⟨some d,.box t x,ty,pos,af,none⟩ { nt,nf:=[nm],wt:=[(d,.ptr nm 0 [])],wo:=[(nm,some (.box t v))] } :=
  OpJ.run rfl rfl hN rfl fun env ob a w σ Z sm hne=>by
    have hn:ob nm=none:=hne.2.2 nm (by simp);obtain⟨h1,h2,h3⟩:=(RepT.to (hx B env ob a w σ Z sm hne.1) hnt).full hj;have s':=sm.newObj hB hn hnm (o:=.box t v) (c:=.cells (a.eval x).cells t) fun ob' σ' m hs=>⟨w.heap.size,_,hs,heap_alloc_new w _,h3,h2,V.rep_move m v _ h1⟩;refine⟨.pointer (some ⟨w.heap.size,0,none⟩),_,_,_,?_,by rw [C9 _ rfl];exact s',by rw [C9 _ rfl];exact X8 (by rw [A6];simp) (by simp [updS])⟩;simp only [execOp,Instr.box,Sem.run_bind,newVar,H9,Result.andThen_ok,Sem.run_pure]

-- structs written out

theorem A1q:∀ (l:List Value) (k off:Nat) (cs:Array Value),off+k+l.length≤cs.size →
    ((l.zipIdx k).foldl (fun(cs:Array Value) (p:Value×Nat)=>cs.setIfInBounds (off+p.2) p.1) cs).toList=cs.toList.take (off+k)++l++cs.toList.drop (off+k+l.length)
  | [],k,off,cs,_=>by simp
  | v :: l,k,off,cs,h=>by
    simp only [List.zipIdx_cons,List.foldl_cons];simp only [List.length_cons] at h;rw [A1q l (k+1) off _ (by simp;omega)];have hlt:off+k<cs.toList.length:=by simp;omega
    simp only [Array.toList_setIfInBounds,List.length_cons,← Nat.add_assoc];rw [List.drop_set_of_lt (by omega),List.take_add_one];rw [List.take_set_of_le (Nat.le_refl _)];rw [List.getElem?_set_self hlt];simp only [Option.toList_some,List.append_assoc,List.cons_append,List.nil_append];rw [show off+k+l.length+1=off+k+1+l.length from by omega]

theorem A82 {place:Nat→Option (Nat×Nat)} {cells:Array Value} {k off size:Nat} {v:Value} {rest:List (Nat×Value)} (hp:place k=some (off,size)) (hs:v.cells.size=size) (hfit:off+size≤cells.size) :
    ∃ cells':Array Value,cells'.toList=cells.toList.take off++v.cells.toList++cells.toList.drop (off+size)∧Instr.fill place cells ((k,v) :: rest)=Instr.fill place cells' rest:=by
  refine⟨v.cells.zipIdx.foldl (fun cs p=>cs.setIfInBounds (off+p.2) p.1) cells,?_,?_⟩
  · rw [← Array.foldl_toList,Array.toList_zipIdx];have:=A1q v.cells.toList 0 off cells (by simpa [hs] using hfit);simpa [hs] using this
  · simp only [Instr.fill,hp];rw [if_neg];simp [hs];omega

inductive Opds:List (Nat×Operand)→List (Nat×V)→List (Nat×V)→Prop
  | nil:Opds [] [] []
  | cons {i:Nat} {x:Operand} {v:V} {nt nt':List (Nat×V)} {xs:List (Nat×Operand)} {vs:List (Nat×V)}:Opd x v nt→Opds xs vs nt'→Opds ((i,x) :: xs) ((i,v) :: vs) (nt++nt')

def okParts (places:List (Nat×Nat)):List V→List (Nat×V)→Bool
  | _,[]=>true
  | cur,(i,x) :: ps=>match cur[i]? with
    | none=>false
    | some f=>Nat.beq x.sz f.sz&&(match places[i]? with | some (o,n)=>Nat.beq o (V.szL (cur.take i))&&Nat.beq n f.sz | none=>false) &&
      (match x with | .junk=>false | x => !x.isTop)&&okParts places (cur.set i x) ps
def setParts:List V→List (Nat×V)→List V
  | cur,[]=>cur
  | cur,(i,x) :: ps=>setParts (cur.set i x) ps

theorem J4 {places:List (Nat×Nat)} {ob:Obs} {σ:Nat→Option Nat} {Z:Nat→Prop} {w:World} {B:Base} {env:Env} {a:Act} (sm:Sim B env ob a w σ Z) :
    ∀ {xs:List (Nat×Operand)} {vs nt:List (Nat×V)},Opds xs vs nt→(∀ p∈nt,env p.1=some p.2)→∀ {cur:List V} {cells:Array Value},okParts places cur vs=true→V.repS ob σ Z w cur cells.toList→cells.size=V.szL cur→(∀ u∈cells.toList,u.oneCell'=true) →
      ∃ cells',Instr.fill (fun i=>places[i]?) cells (xs.map fun p=>(p.1,a.eval p.2))=some cells'∧V.repS ob σ Z w (setParts cur vs) cells'.toList∧(∀ u∈cells'.toList,u.oneCell'=true)
  | _,_,_,.nil,_,cur,cells,_,hr,_,h1=>⟨cells,rfl,hr,h1⟩
  | _,_,_,@Opds.cons i x v nt nt' xs vs hx hxs,hn,cur,cells,hok,hr,hsz,h1=>by
    obtain⟨hn1,hn2⟩:=A4 hn;simp only [okParts] at hok;cases hc:cur[i]? with
    | none=>simp [hc] at hok
    | some f =>
      simp only [hc,Bool.and_eq_true] at hok;obtain⟨⟨⟨hsz',hpl⟩,hnj⟩,hrest⟩:=hok;have hvs:=Nat.eq_of_beq_eq_true hsz';have hj:v ≠ .junk:=by rintro rfl;simp at hnj
      have hnt:v.isTop=false:=by cases v<;>simp_all [V.isTop]
      cases hp:places[i]? with
      | none=>simp [hp] at hpl
      | some q =>
        obtain⟨o,n⟩:=q;simp only [hp,Bool.and_eq_true] at hpl;have ho:=Nat.eq_of_beq_eq_true hpl.1;have hn':=Nat.eq_of_beq_eq_true hpl.2;obtain⟨g1,g2,g3⟩:=(RepT.to (hx B env ob a w σ Z sm hn1) hnt).full hj;obtain⟨c1,c2,c3,e1,e2,e3,e4,e5⟩:=L9 hr hc;have hlen:cells.size=c1.length+c2.length+c3.length:=by rw [← Array.length_toList,e1];simp [Nat.add_assoc]
        obtain⟨cells',k1,k2⟩:=A82 (place:=fun i=>places[i]?) (cells:=cells) (k:=i) (v:=a.eval x) (rest:=xs.map fun p=>(p.1,a.eval p.2)) hp (by omega) (by omega);have k1':cells'.toList=c1++(a.eval x).cells.toList++c3:=by
          rw [k1,e1,show o=c1.length from by omega,show n=c2.length from by omega,List.append_assoc c1 c2 c3,List.take_left,List.drop_length_add_append,List.drop_left]
        have hnew:=e5 v (a.eval x).cells.toList (by rw [Array.length_toList];omega) hvs g3 g1;obtain⟨cells'',m1,m2,m3⟩:=J4 sm hxs hn2 (cur:=cur.set i v) (cells:=cells') hrest (by rw [k1'];exact hnew) (by
          rw [A6j hc hvs,← hsz,hlen,← Array.length_toList,k1'];simp;omega) (fun u hu=>by
          rw [k1'] at hu;simp only [List.mem_append] at hu;rcases hu with (hu | hu) | hu
          · exact h1 u (by rw [e1];simp [hu])
          · exact g3 u hu
          · exact h1 u (by rw [e1];simp [hu]))
        exact⟨cells'',by rw [List.map_cons,k2];exact m1,m2,m3⟩

structure TyF (P:Program) (t:TypeId) (fs:Array Field) (places:List (Nat×Nat)):Prop where
  und:P.underlying t=some (.struct fs)
  run:∀ w,(fs.mapM fun f=>do pure (f.offset,← sizeOf f.type):Sem (Array (Nat×Nat))).run P w = .ok places.toArray w

theorem OpJ.build {t:TypeId} {fs:Array Field} {places:List (Nat×Nat)} {zs:List V} (hf:TyF P t fs places) (hz:TyZ P t (.st zs)) {parts:List (Nat×Operand)} {vs:List (Nat×V)} {nt:List (Nat×V)} (hx:Opds parts vs nt)
    (hok:okParts places zs vs=true) {r:V} (hr:r = .st (setParts zs vs)) (hN:d<B.N) :
    OpJ P B ops ⟨some d,.build t parts.toArray,ty,pos,af,none⟩ { nt,wt:=[(d,r)] } :=
  OpJ.pure rfl rfl hN fun env ob a w σ Z sm hne=>by
    obtain⟨h1,h2,h3⟩:=V.rep_enc (ob:=ob) (σ:=σ) (Z:=Z) (w:=w) (.st zs) hz.plain;have hc:(valOf (V.st zs).isAgg (V.st zs).enc).cells=(V.st zs).enc.toArray:=by simp [valOf,V.isAgg,Value.cells]
    obtain⟨cells',k1,k2,_⟩:=J4 sm hx hne (cells:=(V.st zs).enc.toArray) hok h1 h2 h3;have hagg:RepV ob σ Z w (.agg cells') (.st (setParts zs vs)):=by
      unfold RepV;rw [if_pos (show V.isAgg (.st (setParts zs vs))=true from rfl)];exact⟨cells'.toList,by simp,k2⟩
    refine⟨.agg cells',?_,by subst hr;exact RepT.of hagg rfl⟩;have hmap:(parts.toArray.map fun p=>(p.1,a.eval p.2)).toList=parts.map fun p=>(p.1,a.eval p.2):=by simp
    have hpl:(fun(i:Nat)=>places.toArray[i]?)=fun(i:Nat)=>places[i]? :=by funext i;simp
    simp only [execOp,Instr.build,Sem.run_bind,hz.run,Result.andThen_ok,run_underlying hf.und,hf.run,hc,hpl,hmap,k1,Sem.run_pure]

-- slices written out

theorem D4 {Z:Nat→Prop} {w:World} {z:D} (h:z.plain=true):∀ n,D.repL Z w (List.replicate n z) (List.replicate n z.enc).flatten
  | 0=>by simp [D.repL]
  | n+1=>by
    rw [List.replicate_succ,List.replicate_succ,List.flatten_cons];exact⟨_,_,rfl,D.rep_enc z h,D4 h n⟩

theorem V5 {ob:Obs} {σ:Nat→Option Nat} {Z:Nat→Prop} {w:World}:∀ {es:List D} {cs:List Value},V.repS ob σ Z w (es.map .d) cs→D.repL Z w es cs
  | [],_,h=>h
  | e :: es,cs,h=>by
    obtain⟨c1,c2,h1,_,_,h4,h5⟩:=h;exact⟨c1,c2,h1,h4,V5 h5⟩

theorem E0 (z:List Value) (hz:0<z.length):∀ n,((List.range (n*z.length)).map fun i=>z.toArray[i % z.toArray.size]!)=(List.replicate n z).flatten
  | 0=>by simp
  | n+1=>by
    rw [List.replicate_succ',List.flatten_append,← E0 z hz n,Nat.succ_mul,List.range_add,List.map_append,List.map_map];congr 1;simp only [List.flatten_cons,List.flatten_nil,List.append_nil];refine List.ext_getElem (by simp) fun k h1 h2 => ?_;have hk:k<z.length:=h2;simp only [List.getElem_map,List.getElem_range,Function.comp,List.size_toArray];rw [show(n*z.length+k) % z.length=k from by rw [Nat.add_comm,Nat.add_mul_mod_self_right,Nat.mod_eq_of_lt hk]];simp [hk]

theorem OpJ.buildSlice {t e:TypeId} {sz:Nat} {ag:Bool} {z:D} (hu:P.underlying t=some (.slice e)) (ht:TyS P e sz ag) (hz:TyZ P e (.d z)) (hzs:z.sz=sz) (h0:0<sz) {n:Nat} (hn24:n*sz≤16777216)
    {parts:List (Nat×Operand)} {vs:List (Nat×V)} {nt:List (Nat×V)} (hx:Opds parts vs nt) (hok:okParts ((List.range n).map fun i=>(i*sz,sz)) (List.replicate n (.d z)) vs=true)
    {es:List D} (hes:es.map V.d=setParts (List.replicate n (.d z)) vs) (hel:es.length=n) (hsz:D.szs sz es=true) (hpn:∀ p∈parts,p.1<n) (hN:d<B.N) :
    OpJ P B ops ⟨some d,.buildSlice t n parts.toArray,ty,pos,af,none⟩ { nt,wt:=[(d,.d (.list sz es))] } :=
  OpJ.run rfl rfl hN rfl fun env ob a w σ Z sm hne=>by
    have hzp:z.plain=true:=hz.plain;have hrep:=D.rep_enc (Z:=Z) (w:=w) z hzp;have hzl:=D.rep_len z _ hrep;have hcells:(valOf (V.d z).isAgg (V.d z).enc).cells=z.enc.toArray:=by
      have:=hz.cells;rw [← Array.toArray_toList (xs:=(valOf (V.d z).isAgg (V.d z).enc).cells),this];rfl
    have hzr:=D4 (Z:=Z) (w:=w) hzp n;have hV:V.repS ob σ Z w (List.replicate n (.d z)) (List.replicate n z.enc).flatten:=by
      have:=J3 (ob:=ob) (σ:=σ) hzr;simpa using this
    have hone:∀ u∈(List.replicate n z.enc).flatten,u.oneCell'=true:=D.repL_one _ _ hzr;obtain⟨cells',k1,k2,k3⟩:=J4 sm hx hne.1 (cells:=(List.replicate n z.enc).flatten.toArray) hok (by simpa using hV) (by
      have:=D.repL_len _ _ hzr;rw [List.size_toArray,this];rw [← G5];simp) (by simpa using hone)
    rw [← hes] at k2;have hL:=V5 k2;have hlen:cells'.size=n*sz:=by
      have:=D.repL_len _ _ hL;rw [D.szL_all es (D.szs_spec hsz),hel] at this;rw [← Array.length_toList];exact this
    have s1:=sm.allocZ (.cells cells' e);have hext:Ext Z (fun b=>Z b∨b=w.heap.size) w (w.alloc (.cells cells' e)):=⟨fun _ h => .inl h,fun b h=>Go.RowKit.Below.heap_alloc w _ b (sm.zlt b h)⟩;refine⟨.slice (some ⟨w.heap.size,0,none⟩) n n,_,σ,_,?_,by rw [B1 _ rfl];exact s1,?_⟩
    · have hmap:(parts.toArray.map fun p=>(p.1,a.eval p.2)).toList=parts.map fun p=>(p.1,a.eval p.2):=by simp
      have hpl:∀ (l:List (Nat×Value)),(∀ p∈l,p.1<n)→∀ (c:Array Value),Instr.fill (fun i=>some (i*sz,sz)) c l=Instr.fill (fun i=>((List.range n).map fun i=>(i*sz,sz))[i]?) c l:=by
        intro l;induction l with
        | nil=>intro _ c;rfl
        | cons p l ih =>
          intro hp c;obtain⟨k,v⟩:=p;have hk:k<n:=hp (k,v) (by simp);have hk2:((List.range n).map fun i=>(i*sz,sz))[k]? = some (k*sz,sz):=by simp [List.getElem?_map,List.getElem?_range hk]
          simp only [Instr.fill,hk2];split
          · rfl
          · exact ih (fun p hp'=>hp p (by simp [hp'])) _
      have h1:(parts.map fun p=>(p.1,a.eval p.2)).all (fun p=>decide (p.1<n))=true:=by
        rw [List.all_eq_true];intro q hq;obtain⟨p,hp,rfl⟩:=List.mem_map.1 hq;simpa using hpn p hp
      have hfill:=hpl (parts.map fun p=>(p.1,a.eval p.2)) (fun p hp=>by simpa using List.all_eq_true.1 h1 p hp) ((List.replicate n z.enc).flatten.toArray);rw [k1] at hfill;have hzero:((Array.range (n*sz)).map fun i=>z.enc.toArray[i % z.enc.toArray.size]!)=(List.replicate n z.enc).flatten.toArray:=by
        have:=E0 z.enc (by omega) n;rw [← this,hzl,hzs];apply Array.toList_inj.1;simp
      by_cases hnz:n*sz=0
      · have hn0:n=0:=by rcases Nat.mul_eq_zero.1 hnz with h | h<;>omega
        subst hn0;have hnil:parts=[]:=by
          cases parts with
          | nil=>rfl
          | cons p _=>have:=hpn p (by simp);omega
        subst hnil;have hc':cells' = #[]:=by simpa [Instr.fill] using k1.symm
        have hr0:(Array.map (fun _=>(default:Value)) (Array.range 0)) = #[]:=by apply Array.toList_inj.1;simp
        simp [execOp,Instr.buildSlice,run_underlying hu,ht.run_size,hc',Instr.fill,H9,hr0]
      · simp only [execOp,Instr.buildSlice,Sem.run_bind,run_underlying hu,Result.andThen_ok,ht.run_size,Sem.run_pure,hmap];rw [if_neg (show ¬ n*sz > 2 ^ 24 from by omega),if_neg hnz];simp only [Sem.run_bind,hz.run,Result.andThen_ok,Sem.run_pure,hcells,hzero,hfill,H9]
    · rw [B1 _ rfl];have hL':=D.repL_ext hext es _ hL;have hat:cellsAt (w.alloc (.cells cells' e)) w.heap.size 0 cells'.toList:=fun j v hj=>by
        rw [Nat.zero_add,cell_of_row _ w.heap.size j cells' e (0,0) (heap_alloc_new w _)];simpa using hj
      refine⟨⟨some ⟨w.heap.size,0,none⟩,n,by rw [hel],by omega,by have:n≤n*sz:=Nat.le_mul_of_pos_right _ h0;omega,.inr ⟨w.heap.size,0,rfl,.inr rfl,D.szs_spec hsz,D.repE_of_repL es _ _ _ hL' (D.szs_spec hsz) hat⟩⟩,.inr rfl⟩

-- parts of tuples, lengths

theorem OpJ.extract {vs:List V} {k:Nat} {v:V} (hk:vs[k]? = some v) (hnt:v.isTop=false) (hN:d<B.N) (hx:Opd x (.tup vs) nt) :
    OpJ P B ops ⟨some d,.extract x k,ty,pos,af,none⟩ { nt,wt:=[(d,v)] } :=
  OpJ.pure rfl rfl hN fun env ob a w σ Z sm hne=>by
    obtain⟨cs,h1,h2⟩:=hx B env ob a w σ Z sm hne;have:∀ (k:Nat) (cs:List Value) (vs:List V),RepVs ob σ Z w cs vs→vs[k]? = some v→∃ c,cs[k]? = some c∧RepV ob σ Z w c v:=by
      intro k;induction k with
      | zero =>
        intro cs vs h hk;cases vs with
        | nil=>simp at hk
        | cons x xs =>
          cases cs with
          | nil=>exact h.elim
          | cons c cs=>simp at hk;subst hk;exact⟨c,rfl,h.1⟩
      | succ k ih =>
        intro cs vs h hk;cases vs with
        | nil=>simp at hk
        | cons x xs =>
          cases cs with
          | nil=>exact h.elim
          | cons c cs =>
            obtain⟨c',g1,g2⟩:=ih cs xs h.2 (by simpa using hk);exact⟨c',by simpa using g1,g2⟩
    obtain⟨c,g1,g2⟩:=this k cs vs h2 hk;exact⟨c,by simp [execOp,h1,Instr.extract,g1],RepT.of g2 hnt⟩

theorem OpJ.lenD {t e:TypeId} {sz:Nat} {es:List D} (hu:P.underlying t=some (.slice e)) (hN:d<B.N) (hx:Opd x (.d (.list sz es)) nt) :
    OpJ P B ops ⟨some d,.call { callee:=.builtin .len,args:=#[x],argTypes:=#[t] },ty,pos,af,none⟩ { nt,wt:=[(d,.d (.int .i64 es.length))] } :=
  OpJ.pure rfl rfl hN fun env ob a w σ Z sm hne=>by
    obtain⟨ad,c,hv,_⟩:=I6 (hx B env ob a w σ Z sm hne);exact⟨.int .i64 es.length,by simp [execOp,resolve,invoke,builtin,hv,Builtin.len_,run_underlying hu,goInt],F5 _ _⟩
theorem OpJ.lenN {t e:TypeId} (hu:P.underlying t=some (.slice e)) (hN:d<B.N) (hx:Opd x .nils nt) :
    OpJ P B ops ⟨some d,.call { callee:=.builtin .len,args:=#[x],argTypes:=#[t] },ty,pos,af,none⟩ { nt,wt:=[(d,.d (.int .i64 0))] } :=
  OpJ.pure rfl rfl hN fun env ob a w σ Z sm hne=>by
    have hv:=J1 (hx B env ob a w σ Z sm hne);exact⟨.int .i64 0,by simp [execOp,resolve,invoke,builtin,hv,Builtin.len_,run_underlying hu,goInt],F5 _ _⟩
theorem OpJ.lenS {t e:TypeId} {nm sz off len:Nat} {obj:Ob} (hu:P.underlying t=some (.slice e)) (hN:d<B.N) (hx:Opd x (.sref nm sz off len) nt) :
    OpJ P B ops ⟨some d,.call { callee:=.builtin .len,args:=#[x],argTypes:=#[t] },ty,pos,af,none⟩ { nt,no:=[(nm,obj)],wt:=[(d,.d (.int .i64 len))] } :=
  OpJ.run rfl rfl hN rfl fun env ob a w σ Z sm hne=>by
    have hl:live ob nm:=⟨obj,hne.2.1 (nm,obj) (by simp)⟩;obtain⟨ad,c,hv,_⟩:=K2 (hx B env ob a w σ Z sm hne.1) hl;exact⟨.int .i64 len,w,σ,Z,by simp [execOp,resolve,invoke,builtin,hv,Builtin.len_,run_underlying hu,goInt],by rw [B1 _ rfl];exact sm,F5 _ _⟩
theorem B4e (s:List UInt8):(ByteArray.mk s.toArray).size=s.length:=rfl
theorem OpJ.lenStr {t:TypeId} {s:List UInt8} (hu:P.underlying t=some .string) (hN:d<B.N) (hx:Opd x (.d (.str s)) nt) :
    OpJ P B ops ⟨some d,.call { callee:=.builtin .len,args:=#[x],argTypes:=#[t] },ty,pos,af,none⟩ { nt,wt:=[(d,.d (.int .i64 s.length))] } :=
  OpJ.pure rfl rfl hN fun env ob a w σ Z sm hne=>by
    have hv:=H6 (hx B env ob a w σ Z sm hne);exact⟨.int .i64 s.length,by simp [execOp,resolve,invoke,builtin,hv,Builtin.len_,run_underlying hu,goInt,B4e],F5 _ _⟩

def minI (m n:Int):Int:=if n<m then n else m
def maxI (m n:Int):Int:=if n > m then n else m
theorem OpJ.min {t t':TypeId} {k:IntKind} {m n:Int} (hN:d<B.N) (hx:Opd x (.d (.int k m)) nt) (hy:Opd y (.d (.int k n)) nt') :
    OpJ P B ops ⟨some d,.call { callee:=.builtin .min,args:=#[x,y],argTypes:=#[t,t'] },ty,pos,af,none⟩ { nt:=nt++nt',wt:=[(d,.d (.int k (minI m n)))] } :=
  OpJ.pure rfl rfl hN fun env ob a w σ Z sm hne=>by
    obtain⟨h1,h2⟩:=A4 hne;exact⟨.int k (minI m n),by simp [execOp,resolve,invoke,builtin,B7 (hx B env ob a w σ Z sm h1),B7 (hy B env ob a w σ Z sm h2),Builtin.min_,Builtin.min2,minI],F5 _ _⟩
theorem OpJ.max {t t':TypeId} {k:IntKind} {m n:Int} (hN:d<B.N) (hx:Opd x (.d (.int k m)) nt) (hy:Opd y (.d (.int k n)) nt') :
    OpJ P B ops ⟨some d,.call { callee:=.builtin .max,args:=#[x,y],argTypes:=#[t,t'] },ty,pos,af,none⟩ { nt:=nt++nt',wt:=[(d,.d (.int k (maxI m n)))] } :=
  OpJ.pure rfl rfl hN fun env ob a w σ Z sm hne=>by
    obtain⟨h1,h2⟩:=A4 hne;exact⟨.int k (maxI m n),by simp [execOp,resolve,invoke,builtin,B7 (hx B env ob a w σ Z sm h1),B7 (hy B env ob a w σ Z sm h2),Builtin.max_,Builtin.max2,maxI],F5 _ _⟩

theorem OpJ.nilP {nm off:Nat} {p:List Nat} {obj:Ob} (hN:d<B.N) (hx:Opd x (.ptr nm off p) nt) :
    OpJ P B ops ⟨some d,.nilCheck x,ty,pos,af,none⟩ { nt,no:=[(nm,obj)],wt:=[(d,.ptr nm off p)] } :=
  OpJ.run rfl rfl hN rfl fun env ob a w σ Z sm hne=>by
    have hl:live ob nm:=⟨obj,hne.2.1 (nm,obj) (by simp)⟩;have hr:=hx B env ob a w σ Z sm hne.1;obtain⟨b,hb,hv⟩:=G3 hr hl;exact⟨a.eval x,w,σ,Z,by simp [execOp,hv],by rw [B1 _ rfl];exact sm,by rw [B1 _ rfl];exact hr⟩
theorem OpJ.nilD {e:D} (hN:d<B.N) (hx:Opd x (.dptr e) nt) :
    OpJ P B ops ⟨some d,.nilCheck x,ty,pos,af,none⟩ { nt,wt:=[(d,.dptr e)] } :=
  OpJ.pure rfl rfl hN fun env ob a w σ Z sm hne=>by
    have hr:=hx B env ob a w σ Z sm hne;obtain⟨b,o,xs,hv,_⟩:=Q2 hr;exact⟨a.eval x,by simp [execOp,hv],hr⟩
end
end Go.Vc
namespace Go.Vc
open Go
variable {P:Program} {B:Base} {ops:Array Oper}

section
variable {env:Env} {ob:Obs} {a:Act} {w:World} {σ:Nat→Option Nat} {Z:Nat→Prop}

theorem Sim.rowNewF (s:Sim B env ob a w σ Z) (hB:B.ok) {nm:Nat} (hn:ob nm=none) (h1000:1000≤nm) {w1:World} {g g':Option Nat} (hg:w.grownBy w1 g)
    (hfree:∀ m b,live ob m→σ m=some b→some b≠g) (hfb:∀ b,g=some b→¬ Z b∧(B.w0.heap.size≤b∨B.own b)) (hat:g'=g∨g'=some w.heap.size)
    {o:Ob} (ho:∀ ob' σ',Move ob ob' σ σ' Z Z w w1→σ' nm=g'→o.rep ob' σ' Z w1 nm)
    (hF:Foot B.w0.heap.size B.own (updO ob nm (some o)) (updS σ nm g') Z w1) :
    Sim B env (updO ob nm (some o)) a w1 (updS σ nm g') Z:=by
  have hne:∀ n,used ob n→n≠nm:=fun n hu e=>hu (e ▸ hn);have hold:∀ m b,live ob m→σ m=some b→w1.heap[b]? = w.heap[b]? :=fun m b hm hb=>hg.block b (s.lt hm hb) (hfree m b hm hb);have hz:∀ b,Z b→w1.heap[b]? = w.heap[b]? :=fun b hz=>hg.block b (s.zlt b hz) (fun e=>(hfb b e.symm).1 hz);have hsz:=hg.size;have m:Move ob (updO ob nm (some o)) σ (updS σ nm g') Z Z w w1:=by
    refine⟨⟨fun _ h=>h,hz⟩,fun n h=>I5 h,fun n hu hl => ?_,fun n b hu hl hb => ?_⟩
    · have:=hne n hu;rw [A6,if_neg this] at hl;exact⟨hl,by simp [updS,this]⟩
    · have:=hne n hu;rw [A6,if_neg this] at hl;simp only [World.shape?,hold n b hl hb]
  have hbad:∀ p b,live ob p→σ p=some b→g'≠some b:=by
    intro p b hp hb e;rcases hat with h | h
    · exact hfree p b hp hb (by rw [← h,e])
    · rw [h] at e;have:=s.lt hp hb;simp at e;omega
  refine { s with env:=?_,obj:=?_,inj:=?_,blk:=?_,zlt:=fun b h=>Nat.lt_of_lt_of_le (s.zlt b h) hsz,pin:=?_,shp:=?_,size:=Nat.le_trans s.size hsz,block:=?_,os:=hg.os.trans s.os,tape:=hg.tape.trans s.tape,output:=hg.output.trans s.output,foot:=hF }
  · intro k x hk;obtain⟨v,h1,h2⟩:=s.env k x hk;exact⟨v,h1,h2.move m⟩
  · intro n o' hn'
    by_cases h:n=nm
    · subst h;simp only [updO,if_true,Option.some.injEq] at hn';subst hn';exact ho _ _ m (by simp [updS])
    · simp only [updO,if_neg h] at hn';exact Ob.rep_move m (s.obj n o' hn') (by simp [updS,h]) (fun b hb=>hold n b ⟨_,hn'⟩ hb)
  · intro p q b hp hq hpb hqb;rw [A6] at hp hq
    by_cases h1:p=nm<;>by_cases h2:q=nm
    · rw [h1,h2]
    · rw [if_neg h2] at hq;simp only [updS,h1,h2,if_true,if_false] at hpb hqb;exact(hbad q b hq hqb hpb).elim
    · rw [if_neg h1] at hp;simp only [updS,h1,h2,if_true,if_false] at hpb hqb;exact(hbad p b hp hpb hqb).elim
    · rw [if_neg h1] at hp;rw [if_neg h2] at hq;simp only [updS,h1,h2,if_false] at hpb hqb;exact s.inj p q b hp hq hpb hqb
  · intro n b hl hb;rw [A6] at hl
    by_cases h:n=nm
    · simp only [updS,h,if_true] at hb;rcases hat with e | e
      · exact hfb b (by rw [← e,hb])
      · rw [e] at hb;simp only [Option.some.injEq] at hb;subst hb;exact⟨fun h=>by have:=s.zlt _ h;omega,.inl s.size⟩
    · rw [if_neg h] at hl;simp only [updS,h,if_false] at hb;exact s.blk n b hl hb
  · intro n b hp hl;have h:n≠nm:=fun e=>by have:=hB n b hp;omega
    rw [A6,if_neg h] at hl;simp only [updS,h,if_false];exact s.pin n b hp hl
  · intro n b hp hl;have h:n≠nm:=fun e=>by have:=hB n b hp;omega
    rw [A6,if_neg h] at hl;rw [← s.shp n b hp hl];simp only [World.shape?,hold n b hl (s.pin n b hp hl)]
  · intro k hk hk';rw [hg.block k (Nat.lt_of_lt_of_le hk s.size) (fun e=>by
      rcases(hfb k e.symm).2 with h | h
      · omega
      · exact hk' h)]
    exact s.block k hk hk'
theorem Foot.grown {lo:Nat} {own:Nat→Prop} {ob0:Obs} (F:Foot lo own ob0 σ Z w) (hlt:∀ m b,live ob0 m→σ m=some b→b<w.heap.size) (hzl:∀ b,Z b→b<w.heap.size) {nm:Nat} (hn:ob nm=none) {w1:World} {g g':Option Nat} (hg:w.grownBy w1 g)
    (hr0:∀ n r,ob n=some (some (.reg r))→ob0 n=some (some (.reg r))) (hl0:∀ m,live ob m→live ob0 m) (hg0:∀ b,g=some b→¬ Z b∧∃ m,live ob0 m∧σ m=some b) (hfree:∀ m b,live ob m→σ m=some b→some b≠g) (hat:g'=g∨g'=some w.heap.size)
    {o:Ob} (hr:∀ r,o ≠ .reg r):Foot lo own (updO ob nm (some o)) (updS σ nm g') Z w1:=by
  have hreg:∀ n r,updO ob nm (some o) n=some (some (.reg r))→n≠nm∧ob n=some (some (.reg r)):=fun n r h=>by
    unfold updO at h
    by_cases e:n=nm
    · rw [if_pos e] at h;simp only [Option.some.injEq] at h;exact absurd h (hr r)
    · rw [if_neg e] at h;exact⟨e,h⟩
  refine F.move ⟨fun _ h=>h,fun b h=>hg.block b (hzl b h) fun e=>(hg0 b e.symm).1 h⟩ hg.size (fun n r h=>⟨hr0 n r (hreg n r h).2,by simp [updS,(hreg n r h).1]⟩) (fun n b ⟨r,h⟩ hb => ?_) (fun b _ hl hn'=>hg.block b hl fun e => ?_) (fun b h => .inl h) fun m b hl hb => ?_
  · have:=(hreg n r h).2;exact hg.block b (hlt n b ⟨_,hr0 n r this⟩ hb) (hfree n b ⟨_,this⟩ hb)
  · obtain⟨m,h1,h2⟩:=(hg0 b e.symm).2;exact hn' m h1 h2
  · rw [A6] at hl
    by_cases e:m=nm
    · simp only [updS,if_pos e] at hb;rcases hat with h | h
      · exact .inr (hg0 b (by rw [← h,hb])).2
      · rw [h] at hb;simp only [Option.some.injEq] at hb;left;omega
    · rw [if_neg e] at hl;simp only [updS,if_neg e] at hb;exact .inr ⟨m,hl0 m hl,hb⟩
theorem Sim.rowNew (s:Sim B env ob a w σ Z) {ob0:Obs} (s0:Sim B env ob0 a w σ Z) (hr0:∀ n,ob n=ob0 n∨ob n=some none) (hB:B.ok) {nm:Nat} (hn:ob nm=none) (h1000:1000≤nm) {w1:World} {g g':Option Nat} (hg:w.grownBy w1 g)
    (hfree:∀ m b,live ob m→σ m=some b→some b≠g) (hg0:∀ b,g=some b→∃ m,live ob0 m∧σ m=some b) (hat:g'=g∨g'=some w.heap.size)
    {o:Ob} (ho:∀ ob' σ',Move ob ob' σ σ' Z Z w w1→σ' nm=g'→o.rep ob' σ' Z w1 nm) (hr:∀ r,o ≠ .reg r:=by intro r h;cases h) :
    Sim B env (updO ob nm (some o)) a w1 (updS σ nm g') Z:=by
  have hfb:∀ b,g=some b→¬ Z b∧(B.w0.heap.size≤b∨B.own b):=fun b hb=>by
    obtain⟨m,h1,h2⟩:=hg0 b hb;exact s0.blk m b h1 h2
  have h1:∀ n x,ob n=some (some x)→ob0 n=some (some x):=fun n x h=>by
    rcases hr0 n with e | e
    · rw [← e];exact h
    · rw [e] at h;simp at h
  exact s.rowNewF hB hn h1000 hg hfree hfb hat ho (s0.foot.grown (fun m b=>s0.lt) s0.zlt hn hg (fun n r=>h1 n _) (fun m ⟨x,hx⟩=>⟨x,h1 m x hx⟩) (fun b hb=>⟨(hfb b hb).1,hg0 b hb⟩) hfree hat hr)
theorem Sim.rowNew0 (s:Sim B env ob a w σ Z) (hB:B.ok) {nm:Nat} (hn:ob nm=none) (h1000:1000≤nm) {w1:World} {g':Option Nat} (hg:w.grownBy w1 none)
    (hat:g'=none∨g'=some w.heap.size)
    {o:Ob} (ho:∀ ob' σ',Move ob ob' σ σ' Z Z w w1→σ' nm=g'→o.rep ob' σ' Z w1 nm) (hr:∀ r,o ≠ .reg r:=by intro r h;cases h) :
    Sim B env (updO ob nm (some o)) a w1 (updS σ nm g') Z :=
  s.rowNew s (fun _ => .inl rfl) hB hn h1000 hg (fun _ _ _ _ e=>by cases e) (fun _ e=>by cases e) hat ho hr
theorem V6 (ob:Obs) (n:Nat):∀ m,updO ob n none m=ob m∨updO ob n none m=some none:=fun m=>by
  unfold updO;split
  · exact .inr rfl
  · exact .inl rfl
end

structure TyE (P:Program) (e sz bytes:Nat):Prop where
  info:(P.info? e).map (fun i=>(i.zero.map (·.cells.size),i.size,i.bytes))=some (some sz,sz,bytes)
  pos:0<sz
theorem TyE.get {e sz bytes:Nat} (h:TyE P e sz bytes):∃ i z,P.info? e=some i∧i.zero=some z∧i.size=sz∧i.bytes=bytes∧z.cells.size=sz:=by
  have:=h.info;cases hi:P.info? e with
  | none=>simp [hi] at this
  | some i =>
    simp only [hi,Option.map_some,Option.some.injEq,Prod.mk.injEq] at this;obtain⟨h1,h2,h3⟩:=this;cases hz:i.zero with
    | none=>simp [hz] at h1
    | some z=>exact⟨i,z,rfl,hz,h2,h3,by simpa [hz] using h1⟩

section
variable {d:Nat} {x y i:Operand} {ty:TypeId} {pos:String} {af:Array Edge} {nt nt':List (Nat×V)}

theorem K9 (w:World) (t ty e:TypeId) (i:TypeInfo) (ht:P.underlying t=some (.slice e)) (hi:P.info? e=some i) (a:Option Addr) (n c:Nat) (hnc:n≤c) (b:Option Addr) (c':Nat) :
    (Builtin.append_ #[t,t] ty #[.slice a n c,.slice b 0 c']).run P w = .ok (.slice a n c) w:=by
  cases a<;>cases b<;>simp [Builtin.append_,run_underlying ht,sizeOf,typeInfo,hi,Builtin.lenOf,Builtin.firstCells,hnc,storeCells,loadCells,loadCellsFrom]

theorem E5 {ob:Obs} {σ:Nat→Option Nat} {Z:Nat→Prop} {w:World} {nm e sz n:Nat} {v:Value} {xs:List Value} (hl:live ob nm) (h:w.ownsRow 0 e sz v n xs) (hs:σ nm=v.ownBlock) :
    RepT ob σ Z w v (.sref nm sz 0 n):=by
  rcases h.2 with ⟨rfl,h0⟩ | ⟨g,cap,cur,rfl,_,hh,hn,hcap,hcs,_⟩
  · subst h0;exact⟨⟨hl.used,fun _=>⟨none,0,rfl,Nat.le_refl _,by omega,.inl ⟨hs,rfl,rfl,rfl⟩⟩⟩,.inr rfl⟩
  · refine⟨⟨hl.used,fun _=>⟨some ⟨g,0,none⟩,cap,rfl,hn,by simpa [maxLen] using hcap,.inr ⟨g,e,hs,.inr (by simp),?_,fun _=>rfl⟩⟩⟩,.inr rfl⟩;simp [World.shape?,hh,hcs]

theorem Q3 {ob:Obs} {σ:Nat→Option Nat} {Z:Nat→Prop} {w:World} {nm e sz:Nat} {v:Value} {es:List D} (h:RepT ob σ Z w v (.sref nm sz 0 es.length)) (hl:live ob nm) (ho:(Ob.row e sz es).rep ob σ Z w nm) :
    ∃ xs,w.ownsRow 0 e sz v es.length xs∧D.repL Z w es xs∧v.ownBlock=σ nm:=by
  obtain⟨a,c,hv,h1,h2,h3⟩:=K2 h hl;obtain⟨h0,h00,v',xs,g1,g2,g3,g4⟩:=ho;rcases h3 with ⟨k1,k2,_,k4⟩ | ⟨b,e',k1,k2,k3,k4⟩
  · have:=g4 k1;subst this;cases g2;refine⟨[],?_,rfl,by rw [hv,k2,k1];rfl⟩;rw [hv,k2,k4];exact World.ownsRow_nil w 0 e sz
  · have k4':=k4 rfl;obtain⟨cur,cap,xs',m1,m2,m3,m4,m5,m6,m7⟩:=Ob.row_cells (ob:=ob) (σ:=σ) (Z:=Z) (w:=w) (n:=nm) (e:=e) (sz:=sz) (es:=es) ⟨h0,h00,v',xs,g1,g2,g3,g4⟩ k1;have hc:cap=c:=by
      simp [World.shape?,m1] at k3;have:=k3.2;rw [m2] at this;exact Nat.eq_of_mul_eq_mul_right h0 this
    subst hc;refine⟨xs',⟨m6,.inr ⟨b,cap,cur,by rw [hv,k4'],Nat.zero_le _,m1,m3,by simpa [maxLen] using m4,m2,m7⟩⟩,m5,by rw [hv,k4',k1];rfl⟩

theorem OpJ.append {t e sz bytes:Nat} (hB:B.ok) (hu:P.underlying t=some (.slice e)) (he:TyE P e sz bytes) {n nm:Nat} (hnm:1000≤nm) {es ys es':List D} {len:Nat} (hes:es'=es++ys) (hlen:len=es'.length)
    (hys:∀ y∈ys,y.sz=sz) (hb:es'.length*bytes≤140737488355328) (hb63:es'.length≤9223372036854775807) (hN:d<B.N) {l0:Nat} (hl0:l0=es.length) (hx:Opd x (.sref n sz 0 l0) nt) (hy:Opd y (.d (.list sz ys)) nt') :
    OpJ P B ops ⟨some d,.call { callee:=.builtin .append,args:=#[x,y],argTypes:=#[t,t] },ty,pos,af,none⟩
      { nt:=nt++nt',no:=[(n,.row e sz es)],nf:=[nm],wt:=[(d,.sref nm sz 0 len)],wo:=[(nm,some (.row e sz es')),(n,none)] } :=
  OpJ.run rfl rfl hN rfl fun env ob a w σ Z sm hne=>by
    subst hl0;obtain⟨h1,h2⟩:=A4 hne.1;have hob:=hne.2.1 (n,.row e sz es) (by simp);have hl:live ob n:=⟨_,hob⟩;have hfr:ob nm=none:=hne.2.2 nm (by simp);have hnn:nm≠n:=fun h=>by subst h;exact hl.used hfr
    have hro:=sm.obj n _ hob;obtain⟨xs,hown,hrep,hblk⟩:=Q3 (hx B env ob a w σ Z sm h1) hl hro;obtain⟨ad,c,hyv,hc1,hc2,hyd⟩:=I6 (hy B env ob a w σ Z sm h2);obtain⟨ti,z,hi,hz,hs,hby,hzs⟩:=he.get;have hlen':es'.length=es.length+ys.length:=by rw [hes,List.length_append]
    -- the run
    have hrun:∃ v' w' news,(Builtin.append_ #[t,t] ty #[a.eval x,a.eval y]).run P w = .ok v' w'∧w'.ownsRow 0 e sz v' (es.length+ys.length) (xs++news)∧w.grownBy w' (a.eval x).ownBlock ∧
        (v'.ownBlock=(a.eval x).ownBlock∨v'.ownBlock=some w.heap.size)∧D.repL Z w ys news:=by
      rcases hyd with hyd | ⟨b,o,ha,hzb,hsz,hre⟩
      · subst hyd;refine⟨a.eval x,w,[],?_,by simpa using hown,World.grownBy.refl w _,.inl rfl,rfl⟩;rw [hyv];rcases hown.2 with ⟨hv,_⟩ | ⟨g,cap,cur,hv,_,_,hnc,_⟩
        · rw [hv];exact K9 w t ty e ti hu hi none 0 0 (Nat.le_refl _) ad c
        · rw [hv];exact K9 w t ty e ti hu hi _ _ _ hnc ad c
      · obtain⟨news,g1,g2⟩:=D.repL_of_repE ys b o hre hsz;have gl:=D.repL_len ys news g1;rw [D.szL_all ys hsz] at gl;obtain⟨v',w',k1,k2,k3,_,k5⟩:=run_append_own_at (P:=P) w 0 t ty e ti z sz bytes hu hi hz hs hby hzs he.pos (a.eval x) es.length xs hown ⟨b,o,none⟩ ys.length c news gl
          (fun j u hj=>by rw [F6];exact g2 j u hj) (D.repL_one ys news g1) (by simp only [maxLen];omega) (by rw [← hlen'];exact hb) (Nat.zero_le _)
        exact⟨v',w',news,by rw [hyv,ha];exact k1,k2,k3,k5,g1⟩
    obtain⟨v',w',news,hr,hown',hgr,hat,hnews⟩:=hrun;have hall:D.repL Z w es' (xs++news):=by rw [hes];exact D.repL_append es ys xs news hrep hnews
    have sk:=sm.kill n;have hlv:∀ m,live (updO ob n none) m→m≠n∧live ob m:=fun m hm=>by
      rw [A6] at hm
      by_cases hmn:m=n
      · rw [if_pos hmn] at hm;simp at hm
      · rw [if_neg hmn] at hm;exact⟨hmn,hm⟩
    have s2:=sk.rowNew sm (V6 ob n) hB (nm:=nm) (by simp [updO,hnn,hfr]) hnm hgr
      (fun m b hm hb e=>(hlv m hm).1 (sm.inj m n b (hlv m hm).2 hl hb (by rw [← hblk,← e])))
      (fun b hb=>⟨n,hl,by rw [← hblk,hb]⟩) hat
      (o:=.row e sz es') fun ob' σ' m hσ=>by
        refine⟨he.pos,?_,v',xs++news,by rw [hlen'];exact hown',D.repL_ext m.ext es' _ hall,hσ.symm,fun hn => ?_⟩
        · intro q hq;rw [hes] at hq;rcases List.mem_append.1 hq with hq | hq
          · exact hro.2.1 q hq
          · exact hys q hq
        · rw [hσ] at hn;rcases hown'.2 with ⟨_,h0⟩ | ⟨g,cap,cur,hv,_⟩
          · exact List.eq_nil_of_length_eq_zero (by omega)
          · rw [hv] at hn;simp [Value.ownBlock] at hn
    rw [Q1 _ rfl];refine⟨v',w',_,Z,?_,s2,?_⟩
    · simp only [execOp,resolve,invoke,builtin,Sem.run_bind,Sem.run_pure,Result.andThen_ok,List.map_toArray,List.map_cons,List.map_nil,hr]
    · rw [hlen,hlen'];exact E5 (e:=e) (xs:=xs++news) (by rw [A6];simp) hown' (by simp [updS])

theorem OpJ.appendN {t e sz bytes:Nat} (hB:B.ok) (hu:P.underlying t=some (.slice e)) (he:TyE P e sz bytes) {nm:Nat} (hnm:1000≤nm) {ys:List D} {len:Nat} (hlen:len=ys.length)
    (hys:∀ y∈ys,y.sz=sz) (hb:ys.length*bytes≤140737488355328) (hb63:ys.length≤9223372036854775807) (hN:d<B.N) (hx:Opd x .nils nt) (hy:Opd y (.d (.list sz ys)) nt') :
    OpJ P B ops ⟨some d,.call { callee:=.builtin .append,args:=#[x,y],argTypes:=#[t,t] },ty,pos,af,none⟩
      { nt:=nt++nt',nf:=[nm],wt:=[(d,.sref nm sz 0 len)],wo:=[(nm,some (.row e sz ys))] } :=
  OpJ.run rfl rfl hN rfl fun env ob a w σ Z sm hne=>by
    obtain⟨h1,h2⟩:=A4 hne.1;have hfr:ob nm=none:=hne.2.2 nm (by simp);have hxv:=J1 (hx B env ob a w σ Z sm h1);obtain⟨ad,c,hyv,hc1,hc2,hyd⟩:=I6 (hy B env ob a w σ Z sm h2);obtain⟨ti,z,hi,hz,hs,hby,hzs⟩:=he.get;have hown:=World.ownsRow_nil w 0 e sz;have hrun:∃ v' w' news,(Builtin.append_ #[t,t] ty #[.slice none 0 0,a.eval y]).run P w = .ok v' w'∧w'.ownsRow 0 e sz v' ys.length news∧w.grownBy w' none ∧
        (v'.ownBlock=none∨v'.ownBlock=some w.heap.size)∧D.repL Z w ys news:=by
      rcases hyd with hyd | ⟨b,o,ha,hzb,hsz,hre⟩
      · subst hyd;refine⟨.slice none 0 0,w,[],?_,hown,World.grownBy.refl w _,.inl rfl,rfl⟩;rw [hyv];exact K9 w t ty e ti hu hi none 0 0 (Nat.le_refl _) ad c
      · obtain⟨news,g1,g2⟩:=D.repL_of_repE ys b o hre hsz;have gl:=D.repL_len ys news g1;rw [D.szL_all ys hsz] at gl;obtain⟨v',w',k1,k2,k3,_,k5⟩:=run_append_own_at (P:=P) w 0 t ty e ti z sz bytes hu hi hz hs hby hzs he.pos (.slice none 0 0) 0 [] hown ⟨b,o,none⟩ ys.length c news gl
          (fun j u hj=>by rw [F6];exact g2 j u hj) (D.repL_one ys news g1) (by simp only [maxLen];omega) (by simpa using hb) (Nat.zero_le _)
        exact⟨v',w',news,by rw [hyv,ha];exact k1,by simpa using k2,k3,k5,g1⟩
    obtain⟨v',w',news,hr,hown',hgr,hat,hnews⟩:=hrun;have s2:=sm.rowNew0 hB (nm:=nm) hfr hnm hgr hat
      (o:=.row e sz ys) fun ob' σ' m hσ=>by
        refine⟨he.pos,hys,v',news,hown',D.repL_ext m.ext ys _ hnews,hσ.symm,fun hn => ?_⟩;rw [hσ] at hn;rcases hown'.2 with ⟨_,h0⟩ | ⟨g,cap,cur,hv,_⟩
        · exact List.eq_nil_of_length_eq_zero (by omega)
        · rw [hv] at hn;simp [Value.ownBlock] at hn
    rw [C9 _ rfl];refine⟨v',w',_,Z,?_,s2,?_⟩
    · simp only [execOp,resolve,invoke,builtin,Sem.run_bind,Sem.run_pure,Result.andThen_ok,List.map_toArray,List.map_cons,List.map_nil,hxv,hr]
    · rw [hlen];exact E5 (e:=e) (xs:=news) (by rw [A6];simp) hown' (by simp [updS])

theorem A2q (z:List Value) (hz:0<z.length) (n:Nat):madeCells z.toArray (n*z.length)=(List.replicate n z).flatten.toArray:=by
  apply Array.toList_inj.1;have:=E0 z hz n;rw [← this];simp [madeCells]

theorem OpJ.make {t e sz bytes:Nat} {z:D} (hB:B.ok) (hu:P.underlying t=some (.slice e)) (he:TyE P e sz bytes) (hz:TyZ P e (.d z)) (hzs:z.sz=sz) {nm:Nat} (hnm:1000≤nm) {k k':IntKind} {l c:Int} (h0:0≤l) (hlc:l≤c) (hb:(bytes:Int)*c≤281474976710656) (hb63:c≤9223372036854775807) (hN:d<B.N)
    {es:List D} (hes:es=List.replicate l.toNat z) {len:Nat} (hlen:len=es.length) (hx:Opd x (.d (.int k l)) nt) (hy:Opd y (.d (.int k' c)) nt') :
    OpJ P B ops ⟨some d,.makeSlice t x y,ty,pos,af,none⟩ { nt:=nt++nt',nf:=[nm],wt:=[(d,.sref nm sz 0 len)],wo:=[(nm,some (.row e sz es))] } :=
  OpJ.run rfl rfl hN rfl fun env ob a w σ Z sm hne=>by
    obtain⟨h1,h2⟩:=A4 hne.1;have hfr:ob nm=none:=hne.2.2 nm (by simp);have hxv:=B7 (hx B env ob a w σ Z sm h1);have hyv:=B7 (hy B env ob a w σ Z sm h2);obtain⟨ti,zv,hi,hz',hs,hby,hzs'⟩:=he.get;have hzc:zv.cells.toList=z.enc:=by
      have h3:=hz.run w;simp only [zeroValue,typeInfo,Sem.run_bind] at h3;have h4:=hz.cells;simp [hi,hz'] at h3;rw [h3];exact h4
    have hzl:z.enc.length=sz:=by
      have:=D.rep_len (Z:=Z) (w:=w) z _ (D.rep_enc z hz.plain);rw [this,hzs]
    have hpos:=he.pos;have hcells:zv.cells=z.enc.toArray:=by rw [← hzc]
    have hr:=run_make (P:=P) w t e ti zv hu hi hz' k k' l c h0 hlc (by rw [hby];exact hb) hb63;have hmc:madeCells zv.cells (c.toNat*ti.size)=(List.replicate c.toNat z.enc).flatten.toArray:=by
      rw [hcells,hs,← hzl];exact A2q z.enc (by omega) _
    have hrepc:=D4 (Z:=Z) (w:=w) hz.plain c.toNat;have hcl:=D.repL_len _ _ hrepc;rw [D.szL_all (sz:=sz) _ (fun q hq=>by rw [List.eq_of_mem_replicate hq,hzs]),List.length_replicate] at hcl;have hrepl:=D4 (Z:=Z) (w:=w) hz.plain l.toNat;have hll:=D.repL_len _ _ hrepl;rw [D.szL_all (sz:=sz) _ (fun q hq=>by rw [List.eq_of_mem_replicate hq,hzs]),List.length_replicate] at hll;have hsplit:(List.replicate c.toNat z.enc).flatten=(List.replicate l.toNat z.enc).flatten++(List.replicate (c.toNat-l.toNat) z.enc).flatten:=by
      rw [← List.flatten_append,List.replicate_append_replicate,show l.toNat+(c.toNat-l.toNat)=c.toNat from by omega]
    have hel:es.length=l.toNat:=by rw [hes,List.length_replicate]
    have hown:(w.alloc (.cells (madeCells zv.cells (c.toNat*ti.size)) e)).ownsRow 0 e sz (.slice (some ⟨w.heap.size,0,none⟩) l.toNat c.toNat) es.length (List.replicate l.toNat z.enc).flatten:=by
      refine⟨by rw [hll,hel],.inr ⟨w.heap.size,c.toNat,_,by rw [hel],Nat.zero_le _,heap_alloc_new w _,by rw [hel];omega,by simp only [maxLen];omega,?_,?_⟩⟩
      · rw [hmc,List.size_toArray,hcl]
      · rw [hmc,hsplit,hel,← hll];exact List.take_left
    have s2:=sm.newObj hB hfr hnm (o:=.row e sz es) (c:=.cells (madeCells zv.cells (c.toNat*ti.size)) e) fun ob' σ' m hσ =>
      ⟨he.pos,fun q hq=>by rw [hes] at hq;rw [List.eq_of_mem_replicate hq,hzs],_,_,hown,by rw [hes];exact D.repL_ext m.ext _ _ hrepl,by rw [hσ];rfl,fun hn=>by rw [hσ] at hn;cases hn⟩
    rw [C9 _ rfl];refine⟨.slice (some ⟨w.heap.size,0,none⟩) l.toNat c.toNat,w.alloc (.cells (madeCells zv.cells (c.toNat*ti.size)) e),updS σ nm (some w.heap.size),Z,?_,s2,?_⟩
    · simp only [execOp,hxv,hyv,Sem.run_bind,hr,Result.andThen_ok];rfl
    · rw [hlen];have:=E5 (ob:=updO ob nm (some (.row e sz es))) (σ:=updS σ nm (some w.heap.size)) (Z:=Z) (nm:=nm) (by rw [A6];simp) hown (by simp [updS,Value.ownBlock]);simpa [hel] using this

theorem A2r (w:World) (t e:TypeId) {sz:Nat} {ag:Bool} (hu:P.underlying t=some (.slice e)) (ht:TyS P e sz ag) (a:Option Addr) (len cap:Nat) (hlc:len≤cap) (lo hi:Option Value) (l h:Nat)
    (hlo:lo=none∧l=0∨∃ k n,lo=some (.int k n)∧0≤n∧l=n.toNat) (hhi:hi=none∧h=len∨∃ k n,hi=some (.int k n)∧0≤n∧h=n.toNat) (h1:l≤h) (h2:h≤cap) :
    (Instr.sliceAt t (.slice a len cap) lo hi none).run P w = .ok (.slice (if cap=l then a else a.map (·.add (l*sz))) (h-l) (cap-l)) w:=by
  have hb:∀ (n:Int) (k:IntKind) (y:Nat) (code:BoundsCode),0≤n→n.toNat≤y→(Instr.sliceBound (.int k n) y code).run P w = .ok n.toNat w:=by
    intro n k y code h0 hy;have:n≤(y:Int):=by omega
    simp [Instr.sliceBound,asIntOf,h0,this]
  have hsz:=ht.run_size w;rcases hlo with ⟨rfl,rfl⟩ | ⟨k,n,rfl,hn,rfl⟩
  · rcases hhi with ⟨rfl,rfl⟩ | ⟨k',n',rfl,hn',rfl⟩
    · simp [Instr.sliceAt,Instr.slice,run_underlying hu,Instr.sliceBounds,hsz]
    · have e2:=hb n' k' cap .sliceAcap hn' h2;simp [Instr.sliceAt,Instr.slice,run_underlying hu,Instr.sliceBounds,hsz,e2]
  · rcases hhi with ⟨rfl,rfl⟩ | ⟨k',n',rfl,hn',rfl⟩
    · have e1:=hb n k h .sliceB hn h1;simp [Instr.sliceAt,Instr.slice,run_underlying hu,Instr.sliceBounds,hsz,e1]
    · have e1:=hb n k n'.toNat .sliceB hn h1;have e2:=hb n' k' cap .sliceAcap hn' h2;simp [Instr.sliceAt,Instr.slice,run_underlying hu,Instr.sliceBounds,hsz,e1,e2]

theorem OpJ.cutD {t e:TypeId} {sz:Nat} {ag:Bool} (hu:P.underlying t=some (.slice e)) (ht:TyS P e sz ag) {es es':List D} {lo hi:Option Operand} {l h:Nat} {nl nh:List (Nat×V)}
    (hlo:(lo=none∧l=0∧nl=[])∨∃ o k n,lo=some o∧Opd o (.d (.int k n)) nl∧0≤n∧l=n.toNat) (hhi:(hi=none∧h=es.length∧nh=[])∨∃ o k n,hi=some o∧Opd o (.d (.int k n)) nh∧0≤n∧h=n.toNat)
    (h1:l≤h) (h2:h≤es.length) (hes:es'=(es.take h).drop l) (hN:d<B.N) (hx:Opd x (.d (.list sz es)) nt) :
    OpJ P B ops ⟨some d,.slice t x lo hi none,ty,pos,af,none⟩ { nt:=nt++(nl++nh),wt:=[(d,.d (.list sz es'))] } :=
  OpJ.pure rfl rfl hN fun env ob a w σ Z sm hne=>by
    obtain⟨g1,g23⟩:=A4 hne;obtain⟨g2,g3⟩:=A4 g23;obtain⟨ad,c,hv,hc1,hc2,hd⟩:=I6 (hx B env ob a w σ Z sm g1);have hr:=A2r (P:=P) w t e hu ht ad es.length c hc1 (lo.map a.eval) (hi.map a.eval) l h
      (by
        rcases hlo with ⟨rfl,h0,_⟩ | ⟨o,k,n,rfl,ho,hn,hl⟩
        · exact .inl ⟨rfl,h0⟩
        · exact .inr ⟨k,n,by simp [B7 (ho B env ob a w σ Z sm g2)],hn,hl⟩)
      (by
        rcases hhi with ⟨rfl,h0,_⟩ | ⟨o,k,n,rfl,ho,hn,hl⟩
        · exact .inl ⟨rfl,h0⟩
        · exact .inr ⟨k,n,by simp [B7 (ho B env ob a w σ Z sm g3)],hn,hl⟩)
      h1 (by omega)
    have hel:es'.length=h-l:=by rw [hes,List.length_drop,List.length_take,Nat.min_eq_left h2]
    refine⟨.slice (if c=l then ad else ad.map (·.add (l*sz))) (h-l) (c-l),by simp only [execOp,hv,Sem.run_bind,Option.map_none,hr,Result.andThen_ok];rfl,?_⟩;refine⟨⟨_,_,by rw [hel],by rw [hel];omega,by omega,?_⟩,.inr rfl⟩
    by_cases hnil:es'=[]
    · exact .inl hnil
    · right;have hpos:0<es'.length:=List.length_pos_iff.2 hnil;rcases hd with hd | ⟨b,o,ha,hz,hs,hre⟩
      · subst hd;simp at hes;exact absurd hes hnil
      · refine⟨b,o+l*sz,?_,hz,fun q hq=>hs q ?_,?_⟩
        · rw [if_neg (by omega),ha];simp [F6]
        · rw [hes] at hq;exact List.mem_of_mem_take (List.mem_of_mem_drop hq)
        · rw [hes];exact D.repE_drop _ b o l (D.repE_take es b o h hre)

theorem OpJ.cutS {t e:TypeId} {sz:Nat} {ag:Bool} (hu:P.underlying t=some (.slice e)) (ht:TyS P e sz ag) {nm off len off' len':Nat} {obj:Ob} {lo hi:Option Operand} {l h:Nat} {nl nh:List (Nat×V)}
    (hlo:(lo=none∧l=0∧nl=[])∨∃ o k n,lo=some o∧Opd o (.d (.int k n)) nl∧0≤n∧l=n.toNat) (hhi:(hi=none∧h=len∧nh=[])∨∃ o k n,hi=some o∧Opd o (.d (.int k n)) nh∧0≤n∧h=n.toNat)
    (h1:l≤h) (h2:h≤len) (ho:off'=off+l) (hl:len'=h-l) (hN:d<B.N) (hx:Opd x (.sref nm sz off len) nt) :
    OpJ P B ops ⟨some d,.slice t x lo hi none,ty,pos,af,none⟩ { nt:=nt++(nl++nh),no:=[(nm,obj)],wt:=[(d,.sref nm sz off' len')] } :=
  OpJ.run rfl rfl hN rfl fun env ob a w σ Z sm hne=>by
    obtain⟨g1,g23⟩:=A4 hne.1;obtain⟨g2,g3⟩:=A4 g23;have hlv:live ob nm:=⟨obj,hne.2.1 (nm,obj) (by simp)⟩;obtain⟨ad,c,hv,hc1,hc2,hd⟩:=K2 (hx B env ob a w σ Z sm g1) hlv;have hr:=A2r (P:=P) w t e hu ht ad len c hc1 (lo.map a.eval) (hi.map a.eval) l h
      (by
        rcases hlo with ⟨rfl,h0,_⟩ | ⟨o,k,n,rfl,ho,hn,hl⟩
        · exact .inl ⟨rfl,h0⟩
        · exact .inr ⟨k,n,by simp [B7 (ho B env ob a w σ Z sm g2)],hn,hl⟩)
      (by
        rcases hhi with ⟨rfl,h0,_⟩ | ⟨o,k,n,rfl,ho,hn,hl⟩
        · exact .inl ⟨rfl,h0⟩
        · exact .inr ⟨k,n,by simp [B7 (ho B env ob a w σ Z sm g3)],hn,hl⟩)
      h1 (by omega)
    rw [B1 _ rfl];refine⟨.slice (if c=l then ad else ad.map (·.add (l*sz))) (h-l) (c-l),w,σ,Z,by simp only [execOp,hv,Sem.run_bind,Option.map_none,hr,Result.andThen_ok];rfl,sm,?_⟩;refine⟨⟨hlv.used,fun _=>⟨_,c-l,by rw [hl],by omega,by omega,?_⟩⟩,.inr rfl⟩;rcases hd with ⟨k1,k2,k3,k4⟩ | ⟨b,e',k1,k2,k3,k4⟩
    · left;exact⟨k1,by rw [k2];simp,by omega,by omega⟩
    · right;refine⟨b,e',k1,?_,?_,fun h0 => ?_⟩
      · by_cases hcl:c=l
        · left;omega
        · right;rw [if_neg hcl,k2.resolve_left (by omega)];simp only [Option.map_some,F6,ho,Nat.add_mul]
      · rw [k3,ho,show off+l+(c-l)=off+c from by omega]
      · have:off=0:=by omega
        have hl0:l=0:=by omega
        subst hl0;have:=k4 this;rw [this]
        by_cases hcl:c=0
        · rw [if_pos hcl]
        · rw [if_neg hcl];simp [F6]

theorem OpJ.makeFunc {f:FuncId} {caps:List Operand} {vs:List V} {nts:List (Nat×V)} (hc:∀ (B:Base) (env:Env) (ob:Obs) (a:Act) (w:World) (σ:Nat→Option Nat) (Z:Nat→Prop),Sim B env ob a w σ Z→(∀ p∈nts,env p.1=some p.2)→V.repL ob σ Z w vs (caps.map a.eval)) (hN:d<B.N) :
    OpJ P B ops ⟨some d,.makeFunc (.func f) #[] caps.toArray,ty,pos,af,none⟩ { nt:=nts,wt:=[(d,.func f vs)] } :=
  OpJ.pure rfl rfl hN fun env ob a w σ Z sm hne=>by
    refine⟨.func (.func f) #[] (caps.map a.eval).toArray,by simp [execOp,Instr.makeFunc],⟨⟨_,rfl,hc B env ob a w σ Z sm hne⟩,.inr rfl⟩⟩
end
end Go.Vc
namespace Go.Vc
open Go
variable {P:Program} {B:Base} {ops:Array Oper}

mutual
def V.ren (r:Nat→Nat):V→V
  | .ptr n off p => .ptr (r n) off p
  | .sref n sz off len => .sref (r n) sz off len
  | .func f caps => .func f (V.renL r caps)
  | .st fs => .st (V.renL r fs)
  | .tup fs => .tup (V.renL r fs)
  | .opt g x => .opt g (V.ren r x)
  | .mref n => .mref (r n)
  | x=>x
def V.renL (r:Nat→Nat):List V→List V
  | []=>[]
  | x :: xs=>V.ren r x :: V.renL r xs
end
def Ob.ren (r:Nat→Nat):Ob→Ob
  | .box t x => .box t (x.ren r)
  | .row e sz es => .row e sz es
  | .blk s => .blk s
  | .know k => .know k
  | .reg r => .reg r
  | .vrow e sz fs => .vrow e sz (V.renL r fs)
mutual
def V.names:V→List Nat
  | .ptr n _ _=>[n]
  | .sref n _ _ _=>[n]
  | .func _ caps=>V.namesL caps
  | .st fs=>V.namesL fs
  | .tup fs=>V.namesL fs
  | .opt _ x=>V.names x
  | .mref n=>[n]
  | _=>[]
def V.namesL:List V→List Nat
  | []=>[]
  | x :: xs=>V.names x++V.namesL xs
end
def Ob.names:Ob→List Nat
  | .box _ x=>x.names
  | .row .. => []
  | .blk _=>[]
  | .know _=>[]
  | .reg _=>[]
  | .vrow _ _ fs=>V.namesL fs

theorem V.ren_agg (r:Nat→Nat) (x:V):(x.ren r).isAgg=x.isAgg:=by cases x<;>rfl
mutual
theorem V.ren_sz (r:Nat→Nat):∀ (x:V),(x.ren r).sz=x.sz
  | .st fs=>V.ren_szL r fs
  | .junk=>rfl
  | .d _=>rfl
  | .nils=>rfl
  | .ptr .. => rfl
  | .dptr _=>rfl
  | .sref .. => rfl
  | .func .. => rfl
  | .tup _=>rfl
  | .opt .. => rfl
  | .mref _=>rfl
  | .full .. => rfl
  | .cst _=>rfl
  | .sat _=>rfl
theorem V.ren_szL (r:Nat→Nat):∀ (xs:List V),V.szL (V.renL r xs)=V.szL xs
  | []=>rfl
  | x :: xs=>by simp [V.renL,V.szL,V.ren_sz r x,V.ren_szL r xs]
end

theorem V.renL_len (r:Nat→Nat):∀ (xs:List V),(V.renL r xs).length=xs.length
  | []=>rfl
  | x :: xs=>by simp [V.renL,V.renL_len r xs]
theorem V.renL_sz (r:Nat→Nat) {sz:Nat}:∀ {xs:List V},(∀ x∈V.renL r xs,x.sz=sz)↔∀ x∈xs,x.sz=sz
  | []=>⟨fun _ x h=>(by cases h),fun _ x h=>(by cases h)⟩
  | x :: xs=>by
    have ih:=V.renL_sz r (sz:=sz) (xs:=xs);constructor
    · intro h y hy;rcases List.mem_cons.1 hy with e | hy
      · subst e;rw [← V.ren_sz r y];exact h _ (by simp [V.renL])
      · exact ih.1 (fun z hz=>h z (by rw [V.renL];exact List.mem_cons_of_mem _ hz)) y hy
    · intro h y hy;rw [V.renL] at hy;rcases List.mem_cons.1 hy with e | hy
      · subst e;rw [V.ren_sz];exact h x (List.mem_cons_self ..)
      · exact ih.2 (fun z hz=>h z (List.mem_cons_of_mem _ hz)) y hy
structure Back (r:Nat→Nat) (ob ob':Obs) (σ σ':Nat→Option Nat) (ns:List Nat):Prop where
  us:∀ n∈ns,used ob' n
  lv:∀ n∈ns,live ob' n→live ob (r n)∧σ' n=σ (r n)

section
variable {r:Nat→Nat} {ob ob':Obs} {σ σ':Nat→Option Nat} {Z:Nat→Prop} {w:World}
theorem Back.mono {ns ns':List Nat} (h:Back r ob ob' σ σ' ns) (hs:∀ n∈ns',n∈ns):Back r ob ob' σ σ' ns':=⟨fun n hn=>h.us n (hs n hn),fun n hn=>h.lv n (hs n hn)⟩
mutual
theorem V.unren:∀ (x:V) (cs:List Value),Back r ob ob' σ σ' x.names→V.rep ob σ Z w (x.ren r) cs→V.rep ob' σ' Z w x cs
  | .junk,_,_,h=>h
  | .d _,_,_,h=>h
  | .nils,_,_,h=>h
  | .dptr _,_,_,h=>h
  | .ptr n off p,cs,b,h=>⟨b.us n (by simp [V.names]),fun hl=>by
      obtain⟨l,e⟩:=b.lv n (by simp [V.names]) hl;obtain⟨k,h1,h2⟩:=h.2 l;exact⟨k,e.trans h1,h2⟩⟩
  | .full ..,_,_,h=>h
  | .cst _,_,_,h=>h
  | .sat _,_,_,h=>h
  | .mref n,cs,b,h=>⟨b.us n (by simp [V.names]),fun hl=>by
      obtain⟨l,e⟩:=b.lv n (by simp [V.names]) hl;obtain⟨k,h1,h2⟩:=h.2 l;exact⟨k,e.trans h1,h2⟩⟩
  | .sref n sz off len,cs,b,h=>⟨b.us n (by simp [V.names]),fun hl=>by
      obtain⟨l,e⟩:=b.lv n (by simp [V.names]) hl;obtain⟨a,c,h1,h2,h3,h4⟩:=h.2 l;exact⟨a,c,h1,h2,h3,by rw [e];exact h4⟩⟩
  | .func f caps,cs,b,h=>by
    obtain⟨cvs,h1,h2⟩:=h;exact⟨cvs,h1,V.unrenL caps cvs b h2⟩
  | .st fs,cs,b,h=>V.unrenS fs cs b h
  | .tup _,_,_,h=>h.elim
  | .opt ..,_,_,h=>h.elim
theorem V.unrenL:∀ (xs:List V) (cs:List Value),Back r ob ob' σ σ' (V.namesL xs)→V.repL ob σ Z w (V.renL r xs) cs→V.repL ob' σ' Z w xs cs
  | [],_,_,h=>h
  | x :: xs,cs,b,h=>by
    obtain⟨c,rest,h1,h0,h2,h3⟩:=h;exact⟨c,rest,h1,h0,V.unren x [c] (b.mono fun n hn=>List.mem_append_left _ hn) h2,V.unrenL xs rest (b.mono fun n hn=>List.mem_append_right _ hn) h3⟩
theorem V.unrenS:∀ (xs:List V) (cs:List Value),Back r ob ob' σ σ' (V.namesL xs)→V.repS ob σ Z w (V.renL r xs) cs→V.repS ob' σ' Z w xs cs
  | [],_,_,h=>h
  | x :: xs,cs,b,h=>by
    obtain⟨c1,c2,h1,h2,h3,h4,h5⟩:=h;exact⟨c1,c2,h1,h2.trans (V.ren_sz r x),h3,V.unren x c1 (b.mono fun n hn=>List.mem_append_left _ hn) h4,V.unrenS xs c2 (b.mono fun n hn=>List.mem_append_right _ hn) h5⟩
end
theorem RepV.unren {v:Value} {x:V} (b:Back r ob ob' σ σ' x.names) (h:RepV ob σ Z w v (x.ren r)):RepV ob' σ' Z w v x:=by
  unfold RepV at *;rw [V.ren_agg] at h
  by_cases hx:x.isAgg=true
  · rw [if_pos hx] at h ⊢;obtain⟨cs,h1,h2⟩:=h;exact⟨cs,h1,V.unren x cs b h2⟩
  · rw [if_neg hx] at h ⊢;refine⟨V.unren x [v] b h.1,?_⟩;rcases h.2 with h2 | h2
    · exact .inl (by cases x<;>simp_all [V.ren])
    · exact .inr h2
theorem RepVs.unren:∀ {vs:List Value} {xs:List V},Back r ob ob' σ σ' (V.namesL xs)→RepVs ob σ Z w vs (V.renL r xs)→RepVs ob' σ' Z w vs xs
  | [],[],_,_=>trivial
  | _ :: _,_ :: _,b,h=>⟨RepV.unren (b.mono fun _ hn=>List.mem_append_left _ hn) h.1,RepVs.unren (b.mono fun _ hn=>List.mem_append_right _ hn) h.2⟩
  | [],_ :: _,_,h=>h.elim
  | _ :: _,[],_,h=>h.elim
theorem RepT.unren {v:Value} {x:V} (b:Back r ob ob' σ σ' x.names) (h:RepT ob σ Z w v (x.ren r)):RepT ob' σ' Z w v x:=by
  cases x with
  | tup xs=>obtain⟨vs,h1,h2⟩:=h;exact⟨vs,h1,h2.unren b⟩
  | opt g x=>exact⟨fun e=>RepV.unren (r:=r) b (h.1 e),h.2⟩
  | _=>exact RepV.unren b h
theorem Ob.unren {n:Nat} {o:Ob} (b:Back r ob ob' σ σ' o.names) (hs:σ' n=σ (r n)) (h:(o.ren r).rep ob σ Z w (r n)):o.rep ob' σ' Z w n:=by
  cases o with
  | box t x =>
    obtain⟨k,cs,h1,h2,h3,h4,h5⟩:=h;exact⟨k,cs,hs.trans h1,h2,h3,h4.trans (V.ren_sz r x),V.unren x _ b h5⟩
  | vrow e sz fs =>
    obtain⟨h0,h00,v,xs,h1,h1',h2,h3,h4⟩:=h;refine⟨h0,(V.renL_sz r).1 h00,v,xs,by rw [← V.renL_len r fs];exact h1,h1',V.unrenS fs xs b h2,h3.trans hs.symm,fun hn => ?_⟩;have:=h4 (hs.symm.trans hn);exact List.eq_nil_of_length_eq_zero (by rw [← V.renL_len r fs,this];rfl)
  | row e sz es =>
    obtain⟨h0,h00,v,xs,h1,h2,h3,h4⟩:=h;exact⟨h0,h00,v,xs,h1,h2,h3.trans hs.symm,fun hn=>h4 (hs.symm.trans hn)⟩
  | blk sp =>
    obtain⟨k,h1,h2⟩:=h;exact⟨k,hs.trans h1,h2⟩
  | know k=>exact⟨hs.trans h.1,h.2⟩
  | reg r=>exact fun b hb=>h b (hs.symm.trans hb)
end

structure Fore (r:Nat→Nat) (ob ob':Obs) (σ σ':Nat→Option Nat):Prop where
  us:∀ n,used ob n→used ob' (r n)
  lv:∀ n,used ob n→live ob' (r n)→live ob n∧σ' (r n)=σ n

section
variable {r:Nat→Nat} {ob ob':Obs} {σ σ':Nat→Option Nat} {Z:Nat→Prop} {w:World}
mutual
theorem V.doren (b:Fore r ob ob' σ σ'):∀ (x:V) (cs:List Value),V.rep ob σ Z w x cs→V.rep ob' σ' Z w (x.ren r) cs
  | .junk,_,h=>h
  | .d _,_,h=>h
  | .nils,_,h=>h
  | .dptr _,_,h=>h
  | .ptr n off p,cs,h=>⟨b.us n h.1,fun hl=>by
      obtain⟨l,e⟩:=b.lv n h.1 hl;obtain⟨k,h1,h2⟩:=h.2 l;exact⟨k,e.trans h1,h2⟩⟩
  | .full ..,_,h=>h
  | .cst _,_,h=>h
  | .sat _,_,h=>h
  | .mref n,cs,h=>⟨b.us n h.1,fun hl=>by
      obtain⟨l,e⟩:=b.lv n h.1 hl;obtain⟨k,h1,h2⟩:=h.2 l;exact⟨k,e.trans h1,h2⟩⟩
  | .sref n sz off len,cs,h=>⟨b.us n h.1,fun hl=>by
      obtain⟨l,e⟩:=b.lv n h.1 hl;obtain⟨a,c,h1,h2,h3,h4⟩:=h.2 l;exact⟨a,c,h1,h2,h3,by rw [e];exact h4⟩⟩
  | .func f caps,cs,h=>by
    obtain⟨cvs,h1,h2⟩:=h;exact⟨cvs,h1,V.dorenL b caps cvs h2⟩
  | .st fs,cs,h=>V.dorenS b fs cs h
  | .tup _,_,h=>h.elim
  | .opt ..,_,h=>h.elim
theorem V.dorenL (b:Fore r ob ob' σ σ'):∀ (xs:List V) (cs:List Value),V.repL ob σ Z w xs cs→V.repL ob' σ' Z w (V.renL r xs) cs
  | [],_,h=>h
  | x :: xs,cs,h=>by
    obtain⟨c,rest,h1,h0,h2,h3⟩:=h;exact⟨c,rest,h1,h0,V.doren b x [c] h2,V.dorenL b xs rest h3⟩
theorem V.dorenS (b:Fore r ob ob' σ σ'):∀ (xs:List V) (cs:List Value),V.repS ob σ Z w xs cs→V.repS ob' σ' Z w (V.renL r xs) cs
  | [],_,h=>h
  | x :: xs,cs,h=>by
    obtain⟨c1,c2,h1,h2,h3,h4,h5⟩:=h;exact⟨c1,c2,h1,h2.trans (V.ren_sz r x).symm,h3,V.doren b x c1 h4,V.dorenS b xs c2 h5⟩
end
theorem RepV.doren (b:Fore r ob ob' σ σ') {v:Value} {x:V} (h:RepV ob σ Z w v x):RepV ob' σ' Z w v (x.ren r):=by
  unfold RepV at *;rw [V.ren_agg]
  by_cases hx:x.isAgg=true
  · rw [if_pos hx] at h ⊢;obtain⟨cs,h1,h2⟩:=h;exact⟨cs,h1,V.doren b x cs h2⟩
  · rw [if_neg hx] at h ⊢;refine⟨V.doren b x [v] h.1,?_⟩;rcases h.2 with h2 | h2
    · exact .inl (by subst h2;rfl)
    · exact .inr h2
theorem RepVs.doren (b:Fore r ob ob' σ σ'):∀ {vs:List Value} {xs:List V},RepVs ob σ Z w vs xs→RepVs ob' σ' Z w vs (V.renL r xs)
  | [],[],_=>trivial
  | _ :: _,_ :: _,h=>⟨h.1.doren b,RepVs.doren b h.2⟩
  | [],_ :: _,h=>h.elim
  | _ :: _,[],h=>h.elim
theorem RepT.doren (b:Fore r ob ob' σ σ') {v:Value} {x:V} (h:RepT ob σ Z w v x):RepT ob' σ' Z w v (x.ren r):=by
  cases x with
  | tup xs=>obtain⟨vs,h1,h2⟩:=h;exact⟨vs,h1,h2.doren b⟩
  | opt g x=>exact⟨fun e=>RepV.doren b (h.1 e),h.2⟩
  | _=>exact RepV.doren b h
theorem Ob.doren (b:Fore r ob ob' σ σ') {n:Nat} {o:Ob} (hs:σ' (r n)=σ n) (h:o.rep ob σ Z w n):(o.ren r).rep ob' σ' Z w (r n):=by
  cases o with
  | box t x =>
    obtain⟨k,cs,h1,h2,h3,h4,h5⟩:=h;exact⟨k,cs,hs.trans h1,h2,h3,h4.trans (V.ren_sz r x).symm,V.doren b x _ h5⟩
  | vrow e sz fs =>
    obtain⟨h0,h00,v,xs,h1,h1',h2,h3,h4⟩:=h;exact⟨h0,(V.renL_sz r).2 h00,v,xs,by rw [V.renL_len r fs];exact h1,h1',V.dorenS b fs xs h2,h3.trans hs.symm,fun hn=>by rw [h4 (hs.symm.trans hn)];rfl⟩
  | row e sz es =>
    obtain⟨h0,h00,v,xs,h1,h2,h3,h4⟩:=h;exact⟨h0,h00,v,xs,h1,h2,h3.trans hs.symm,fun hn=>h4 (hs.symm.trans hn)⟩
  | blk sp =>
    obtain⟨k,h1,h2⟩:=h;exact⟨k,hs.trans h1,h2⟩
  | know k=>exact⟨hs.trans h.1,h.2⟩
  | reg r=>exact fun b hb=>h b (hs.symm.trans hb)
end

abbrev EL:=List (Nat×V)
abbrev OL:=List (Nat×Option Ob)

def rnm (R:List (Nat×Nat)) (n:Nat):Nat:=match look R n with | some m=>m | none=>n

def memB (n:Nat):List Nat→Bool
  | []=>false
  | m :: l=>Nat.beq m n || memB n l
theorem I3 {n:Nat}:∀ {l:List Nat},memB n l=true→n∈l
  | [],h=>by simp [memB] at h
  | m :: l,h=>by
    simp only [memB,Bool.or_eq_true] at h;rcases h with h | h
    · rw [Nat.eq_of_beq_eq_true h];exact List.mem_cons_self ..
    · exact List.mem_cons_of_mem _ (I3 h)
theorem F9 {α:Type} {k:Nat}:∀ {l:List (Nat×α)},k∈keys l→look l k≠none
  | [],h=>by simp [keys] at h
  | (j,x) :: l,h=>by
    rw [A2]
    by_cases hj:j=k
    · simp [hj]
    · rw [if_neg hj];simp only [keys,List.map_cons,List.mem_cons] at h;rcases h with h | h
      · exact absurd h.symm hj
      · exact F9 h

def okPat (R:List (Nat×Nat)) (E':EL) (O':OL):Bool :=
  (E'.all fun p=>p.2.names.all fun n=>memB n (keys O')) &&
  (O'.all fun p=>match p.2 with | some o=>o.names.all fun n=>memB n (keys O') | none=>true) &&
  (O'.all fun p=>O'.all fun q=>match p.2,q.2 with | some _,some _ => !Nat.beq (rnm R p.1) (rnm R q.1) || Nat.beq p.1 q.1 | _,_=>true) &&
  (O'.all fun p=>match p.2 with | some _=>Nat.ble 1000 p.1 || Nat.beq (rnm R p.1) p.1 | none=>true)
def patE (E':EL) (E:EL):List (Option V):=E'.map fun p=>look E p.1
def patE' (R:List (Nat×Nat)) (E':EL):List (Option V):=E'.map fun p=>some (p.2.ren (rnm R))
def patO (R:List (Nat×Nat)) (O':OL) (O:OL):List (Option (Option Ob)):=O'.map fun p=>match p.2 with | some _=>look O (rnm R p.1) | none=>none
def patO' (R:List (Nat×Nat)) (O':OL):List (Option (Option Ob)):=O'.map fun p=>match p.2 with | some o=>some (some (o.ren (rnm R))) | none=>none

theorem G7 {α β:Type} {f g:α→β} {l:List α} (h:l.map f=l.map g):∀ x∈l,f x=g x:=by
  induction l with
  | nil=>simp
  | cons a l ih =>
    simp only [List.map_cons,List.cons.injEq] at h;intro x hx;rcases List.mem_cons.1 hx with hx | hx
    · subst hx;exact h.1
    · exact ih h.2 x hx

theorem Sim.pat {E E':EL} {O O':OL} {a:Act} {w:World} {σ:Nat→Option Nat} {Z:Nat→Prop} (hB:B.ok) (R:List (Nat×Nat)) (hok:okPat R E' O'=true) (hE:patE E' E=patE' R E') (hO:patO R O' O=patO' R O')
    (s:Sim B (look E) (look O) a w σ Z):Sim B (look E') (look O') a w (fun n=>σ (rnm R n)) Z:=by
  simp only [okPat,Bool.and_eq_true,List.all_eq_true] at hok;obtain⟨⟨⟨k1,k2⟩,k3⟩,k4⟩:=hok;have hE':=G7 hE;have hO':=G7 hO;have lvs:∀ n o,look O' n=some (some o)→look O (rnm R n)=some (some (o.ren (rnm R))):=fun n o h=>by
    have:=hO' (n,some o) (D3 h);simpa using this
  have back:∀ ns:List Nat,(∀ n∈ns,memB n (keys O')=true)→Back (rnm R) (look O) (look O') σ (fun n=>σ (rnm R n)) ns:=fun ns h =>
    ⟨fun n hn=>F9 (I3 (h n hn)),fun n _ hl=>by
      obtain⟨o,ho⟩:=hl;exact⟨⟨_,lvs n o ho⟩,rfl⟩⟩
  refine { s with env:=?_,obj:=?_,inj:=?_,blk:=?_,pin:=?_,shp:=?_,foot:=?_ }
  · intro k x hk;have hm:=D3 hk;have he:=hE' (k,x) hm;obtain⟨v,h1,h2⟩:=s.env k _ he;exact⟨v,h1,h2.unren (back _ (fun n hn=>k1 (k,x) hm n hn))⟩
  · intro n o hn;have hm:=D3 hn;have hb:=k2 (n,some o) hm;simp only [List.all_eq_true] at hb;exact Ob.unren (back _ hb) rfl (s.obj _ _ (lvs n o hn))
  · intro p q b hp hq hpb hqb;obtain⟨o,ho⟩:=hp;obtain⟨o',ho'⟩:=hq;have:=s.inj _ _ b ⟨_,lvs p o ho⟩ ⟨_,lvs q o' ho'⟩ hpb hqb;have h3:=k3 (p,some o) (D3 ho) (q,some o') (D3 ho');simp only [this,Bool.or_eq_true] at h3;rcases h3 with h3 | h3
    · simp at h3
    · exact Nat.eq_of_beq_eq_true h3
  · intro n b hl hb;obtain⟨o,ho⟩:=hl;exact s.blk _ b ⟨_,lvs n o ho⟩ hb
  · intro n b hp hl;obtain⟨o,ho⟩:=hl;have h4:=k4 (n,some o) (D3 ho);have hlt:=hB n b hp;simp only [Bool.or_eq_true] at h4;have:rnm R n=n:=by
      rcases h4 with h4 | h4
      · have:=Nat.le_of_ble_eq_true h4;omega
      · exact Nat.eq_of_beq_eq_true h4
    show σ (rnm R n)=b;rw [this];exact s.pin n b hp ⟨_,by have:=lvs n o ho;rwa [‹rnm R n=n›] at this⟩
  · intro n b hp hl;obtain⟨o,ho⟩:=hl;have h4:=k4 (n,some o) (D3 ho);have hlt:=hB n b hp;simp only [Bool.or_eq_true] at h4;have:rnm R n=n:=by
      rcases h4 with h4 | h4
      · have:=Nat.le_of_ble_eq_true h4;omega
      · exact Nat.eq_of_beq_eq_true h4
    exact s.shp n b hp ⟨_,by have:=lvs n o ho;rwa [‹rnm R n=n›] at this⟩
  · obtain⟨Y,h1,h2⟩:=s.foot;have hrg:∀ n,isReg (look O') n→isReg (look O) (rnm R n):=fun n ⟨r,hr⟩=>⟨r,lvs n _ hr⟩;refine⟨fun n=>Y (rnm R n),fun n r hn=>h1 _ _ (lvs n _ hn),fun n b hn hy => ?_⟩;obtain⟨g1,g2,g3,g4,g5⟩:=h2 _ b (hrg n hn) hy;refine⟨g1,g2,g3,fun m ⟨o,ho⟩=>g4 _ ⟨_,lvs m o ho⟩,fun m hm hmy => ?_⟩;have e:=g5 _ (hrg m hm) hmy;obtain⟨r,hr⟩:=hn;obtain⟨r',hr'⟩:=hm;have h3:=k3 (m,some (.reg r')) (D3 hr') (n,some (.reg r)) (D3 hr);simp only [e,Bool.or_eq_true] at h3;rcases h3 with h3 | h3
    · simp at h3
    · exact Nat.eq_of_beq_eq_true h3

theorem Foot.settle {lo:Nat} {own:Nat→Prop} {ob:Obs} {w:World} {σ:Nat→Option Nat} {Z:Nat→Prop} (F:Foot lo own ob σ Z w) {n b:Nat} (hl:live ob n) (hb:σ n=some b):Foot lo own (updO ob n none) σ (fun q=>Z q∨q=b) w:=by
  refine F.move ⟨fun _ h => .inl h,fun _ _=>rfl⟩ (Nat.le_refl _) (fun m r h=>⟨?_,rfl⟩) (fun _ _ _ _=>rfl) (fun _ _ _ _=>rfl) (fun q h => ?_) fun m q hm hq => .inr ⟨m,?_,hq⟩
  · unfold updO at h
    by_cases e:m=n
    · rw [if_pos e] at h;simp at h
    · rwa [if_neg e] at h
  · rcases h with h | h
    · exact .inl h
    · subst h;exact .inr (.inr ⟨n,hl,hb⟩)
  · rw [A6] at hm
    by_cases e:m=n
    · rw [if_pos e] at hm;simp at hm
    · rwa [if_neg e] at hm
theorem Sim.freeze {env:Env} {ob:Obs} {a:Act} {w:World} {σ:Nat→Option Nat} {Z:Nat→Prop} (s:Sim B env ob a w σ Z) {n e sz:Nat} {es:List D} (hn:ob n=some (some (.row e sz es))) {k off len:Nat} (hk:env k=some (.sref n sz off len)) (hle:off+len≤es.length) :
    ∃ Z',Sim B (upd env k (.d (.list sz ((es.drop off).take len)))) (updO ob n none) a w σ Z':=by
  have hl:live ob n:=⟨_,hn⟩;have sk:=s.kill n;have hro:=s.obj n _ hn;obtain⟨v,hv,hr⟩:=s.env k _ hk;obtain⟨ad,c,hvv,hc1,hc2,hd⟩:=K2 hr hl;have put:∀ (Z':Nat→Prop),Sim B env (updO ob n none) a w σ Z'→RepT (updO ob n none) σ Z' w v (.d (.list sz ((es.drop off).take len))) →
      Sim B (upd env k (.d (.list sz ((es.drop off).take len)))) (updO ob n none) a w σ Z':=by
    intro Z' s' hr';refine { s' with env:=fun j y hj => ?_ };unfold upd at hj
    by_cases he:j=k
    · rw [if_pos he] at hj;cases hj;subst he;exact⟨v,hv,hr'⟩
    · rw [if_neg he] at hj;exact s'.env j y hj
  have hlen:((es.drop off).take len).length=len:=by simp;omega
  rcases hd with ⟨k1,k2,k3,k4⟩ | ⟨b,e',hb,ha,hsh,h0⟩
  · have hnil:len=0:=by omega
    subst hnil;refine⟨Z,put Z sk ⟨⟨ad,c,by simp [hvv],by simp,hc2,.inl (by simp)⟩,.inr (by rw [hvv];rfl)⟩⟩
  · obtain⟨cur,cap,xs,m1,m2,m3,m4,m5,m6,m7⟩:=Ob.row_cells hro hb;obtain⟨hz,hbb⟩:=s.blk n b hl hb;have hblt:=s.lt hl hb;have s1:Sim B env (updO ob n none) a w σ (fun q=>Z q∨q=b):=by
      have hlv:∀ m,live (updO ob n none) m→m≠n∧live ob m:=fun m hm=>by
        rw [A6] at hm
        by_cases hmn:m=n
        · rw [if_pos hmn] at hm;simp at hm
        · rw [if_neg hmn] at hm;exact⟨hmn,hm⟩
      have m:Move (updO ob n none) (updO ob n none) σ σ Z (fun q=>Z q∨q=b) w w:=⟨⟨fun _ h => .inl h,fun _ _=>rfl⟩,fun _ h=>h,fun _ _ h=>⟨h,rfl⟩,fun _ _ _ _ _=>rfl⟩;refine { sk with env:=?_,obj:=?_,blk:=?_,zlt:=?_,zsub:=fun q h => .inl (sk.zsub q h),znew:=?_,foot:=s.foot.settle hl hb }
      · intro j x hj;obtain⟨u,h1,h2⟩:=sk.env j x hj;exact⟨u,h1,h2.move m⟩
      · intro q o hq;exact Ob.rep_move m (sk.obj q o hq) rfl (fun _ _=>rfl)
      · intro p q hp hq;obtain⟨g1,g2⟩:=sk.blk p q hp hq;refine⟨fun h => ?_,g2⟩;rcases h with h | h
        · exact g1 h
        · subst h;exact(hlv p hp).1 (s.inj p n q (hlv p hp).2 hl hq hb)
      · intro q h;rcases h with h | h
        · exact sk.zlt q h
        · subst h;exact hblt
      · intro q h;rcases h with h | h
        · exact sk.znew q h
        · subst h;exact .inr hbb
    refine⟨_,put _ s1 ⟨⟨ad,c,by rw [hvv,hlen],by rw [hlen];exact hc1,hc2,?_⟩,.inr (by rw [hvv];rfl)⟩⟩
    by_cases hc0:c=0
    · left;have hl0:len=0:=by omega
      subst hl0;simp
    · right;have hext:Ext Z (fun q=>Z q∨q=b) w w:=⟨fun _ h => .inl h,fun _ _=>rfl⟩;have hat:cellsAt w b 0 xs:=fun j u hj=>by
        rw [Nat.zero_add,cell_of_row w b j cur e (0,0) m1];rw [← m7,List.getElem?_take] at hj;split at hj
        · simpa using hj
        · cases hj
      have hE:=D.repE_of_repL es b 0 xs (D.repL_ext hext es xs m5) hro.2.1 hat;have hE2:=D.repE_take _ b (0+off*sz) len (D.repE_drop es b 0 off hE);rw [Nat.zero_add] at hE2;refine⟨b,off*sz,?_,.inr rfl,fun q hq=>hro.2.1 q (List.mem_of_mem_drop (List.mem_of_mem_take hq)),hE2⟩;exact ha.resolve_left hc0

end Go.Vc
namespace Go.Vc
open Go
variable {P:Program} {B:Base} {ops:Array Oper}

def obOf (pobs:List (Nat×Ob)):Obs:=fun n=>(look pobs n).map some

def Ob.noReg:Ob→Bool
  | .reg _=>false
  | _=>true
theorem A83 {lo:Nat} {own:Nat→Prop} {σ:Nat→Option Nat} {Z:Nat→Prop} {w:World} {pobs:List (Nat×Ob)} (h:pobs.all (fun p=>p.2.noReg)=true):Foot lo own (obOf pobs) σ Z w:=Foot.empty fun n r hn=>by
  simp only [obOf,Option.map_eq_some_iff,Option.some.injEq] at hn;obtain⟨o,h1,h2⟩:=hn;subst h2;have:=List.all_eq_true.1 h _ (D3 h1);simp [Ob.noReg] at this

structure Post (ob:Obs) (w:World) (σ:Nat→Option Nat) (Z:Nat→Prop) (res:V) (robs:OL) (cv:Value) (w':World) (σ':Nat→Option Nat) (Z':Nat→Prop):Prop where
  res:RepT (look robs) σ' Z' w' cv res
  obj:∀ n o,look robs n=some (some o)→o.rep (look robs) σ' Z' w' n
  inj:∀ n m b,live (look robs) n→live (look robs) m→σ' n=some b→σ' m=some b→n=m
  pin:∀ n,n<1000→live ob n→live (look robs) n→σ' n=σ n
  shp:∀ n b,n<1000→live ob n→live (look robs) n→σ n=some b→w'.shape? b=w.shape? b
  blk:∀ n b,live (look robs) n→σ' n=some b→¬ Z' b∧(w.heap.size≤b∨∃ m,live ob m∧σ m=some b)
  zlt:∀ b,Z' b→b<w'.heap.size
  zsub:∀ b,Z b→Z' b
  znew:∀ b,Z' b→Z b∨w.heap.size≤b∨∃ m,live ob m∧σ m=some b
  os:w'.os=w.os
  tape:w'.tape=w.tape
  output:w'.output=w.output
  size:w.heap.size≤w'.heap.size
  block:∀ k,k<w.heap.size→(¬ ∃ m,live ob m∧σ m=some k)→w'.heap[k]? = w.heap[k]?

structure Pre (ob:Obs) (w:World) (σ:Nat→Option Nat) (Z:Nat→Prop) (args:List V) (cargs:List Value):Prop where
  args:RepVs ob σ Z w cargs args
  obj:∀ n o,ob n=some (some o)→o.rep ob σ Z w n
  inj:∀ n m b,live ob n→live ob m→σ n=some b→σ m=some b→n=m
  blk:∀ n b,live ob n→σ n=some b→¬ Z b
  zlt:∀ b,Z b→b<w.heap.size

def AC (P:Program) (f:FuncId) (args:List V) (pobs:List (Nat×Ob)) (res:V) (robs:OL):Prop :=
  ∀ (w:World) (σ:Nat→Option Nat) (Z:Nat→Prop) (cargs:List Value),Pre (obOf pobs) w σ Z args cargs →
    Calls P f cargs.toArray w fun e w'=>∃ cv σ' Z',e = .returned cv∧Post (obOf pobs) w σ Z res robs cv w' σ' Z'

-- code

def AWp (P:Program) (B:Base) (c:Code) (Q:Exit→EL→OL→Prop) (E:EL) (O:OL):Prop :=
  ∀ (a:Act) (w:World) (σ:Nat→Option Nat) (Z:Nat→Prop),Sim B (look E) (look O) a w σ Z →
    c.wp P (fun e a' w'=>∃ E' O' σ' Z',Q e E' O'∧Sim B (look E') (look O') a' w' σ' Z') a w

section
variable {Q Q':Exit→EL→OL→Prop} {E E':EL} {O O':OL}
theorem AWp.mono {c:Code} (h:AWp P B c Q E O) (hq:∀ e E O,Q e E O→Q' e E O):AWp P B c Q' E O:=fun a w σ Z s =>
  wp_mono (h a w σ Z s) fun _ _ _ ⟨E',O',σ',Z',q,s'⟩=>⟨E',O',σ',Z',hq _ _ _ q,s'⟩
theorem AWp.skip (h:Q .normal E O):AWp P B .skip Q E O:=fun _ _ σ Z s=>wp_skip ⟨E,O,σ,Z,h,s⟩
theorem AWp.ret (h:Q .ret E O):AWp P B .ret Q E O:=fun _ _ σ Z s=>wp_ret ⟨E,O,σ,Z,h,s⟩
theorem AWp.exit {id:Nat} (h:Q (.exit id) E O):AWp P B (.exit id) Q E O:=fun _ _ σ Z s=>wp_exit ⟨E,O,σ,Z,h,s⟩
def seqQ (P:Program) (B:Base) (y:Code) (Q:Exit→EL→OL→Prop):Exit→EL→OL→Prop
  | .normal,E,O=>AWp P B y Q E O
  | e,E,O=>Q e E O
theorem AWp.seq {x y:Code} (h:AWp P B x (seqQ P B y Q) E O):AWp P B (.seq x y) Q E O:=fun a w σ Z s =>
  wp_seq (wp_mono (h a w σ Z s) fun e a' w' ⟨E',O',σ',Z',q,s'⟩=>by
    cases e with
    | normal=>exact q a' w' σ' Z' s'
    | _=>exact⟨E',O',σ',Z',q,s'⟩)
theorem AWp.cond {t:Nat} {b:Bool} {x y:Code} (hc:look E t=some (.d (.bool b))) (h1:b=true→AWp P B x Q E O) (h2:b=false→AWp P B y Q E O):AWp P B (.cond (.tmp t) x y) Q E O:=fun a w σ Z s=>by
  have hv:=F1 (Opd.tmp t (.d (.bool b)) B (look E) (look O) a w σ Z s (fun p hp=>by simp at hp;subst hp;exact hc));exact wp_cond_split hv (fun h=>h1 h a w σ Z s) (fun h=>h2 h a w σ Z s)
def blkQ (id:Nat) (Q:Exit→EL→OL→Prop):Exit→EL→OL→Prop
  | .exit id',E,O=>if id'=id then Q .normal E O else Q (.exit id') E O
  | e,E,O=>Q e E O
theorem AWp.block {id:Nat} {c:Code} (h:AWp P B c (blkQ id Q) E O):AWp P B (.block id c) Q E O:=fun a w σ Z s =>
  wp_block (wp_mono (h a w σ Z s) fun e a' w' ⟨E',O',σ',Z',q,s'⟩=>by
    cases e with
    | exit id' =>
      simp only [Exit.inBlock];simp only [blkQ] at q;split at q
      · rename_i he;rw [if_pos he];exact⟨E',O',σ',Z',q,s'⟩
      · rename_i he;rw [if_neg he];exact⟨E',O',σ',Z',q,s'⟩
    | _=>exact⟨E',O',σ',Z',q,s'⟩)

def rds (P:Program) (c:Code) (Q:Exit→Act→World→Prop):Nat→Act→World→Prop
  | 0,_,_=>False
  | n+1,a,w=>c.wp P (Exit.then (rds P c Q n) Q) a w
theorem A9u {c:Code} {Q:Exit→Act→World→Prop} (n:Nat) (a:Act) (w:World) (h:rds P c Q n a w):(Code.loop c).wp P Q a w:=by
  classical
  have wit:∃ n,rds P c Q n a w:=⟨n,h⟩
  let mu:Act→World→Nat:=fun a w=>if h:∃ n,rds P c Q n a w then Classical.choose (p:=fun k=>rds P c Q k a w∧∀ m,m<k→¬ rds P c Q m a w) (by
    obtain⟨n,hn⟩:=h;induction n using Nat.strongRecOn with
    | ind n ih =>
      by_cases hm:∃ m,m<n∧rds P c Q m a w
      · obtain⟨m,h1,h2⟩:=hm;exact ih m h1 h2
      · exact⟨n,hn,fun m h1 h2=>hm ⟨m,h1,h2⟩⟩) else 0
  have hmu:∀ a w,(∃ n,rds P c Q n a w)→rds P c Q (mu a w) a w∧∀ m,m<mu a w→¬ rds P c Q m a w:=by
    intro a w h;have:mu a w=Classical.choose (p:=fun k=>rds P c Q k a w∧∀ m,m<k→¬ rds P c Q m a w) _:=dif_pos h;rw [this];exact Classical.choose_spec (p:=fun k=>rds P c Q k a w∧∀ m,m<k→¬ rds P c Q m a w) _
  refine wp_loop (fun a w=>∃ n,rds P c Q n a w) mu wit fun a w hw => ?_;obtain⟨h1,h2⟩:=hmu a w hw;cases hk:mu a w with
  | zero=>rw [hk] at h1;exact h1.elim
  | succ k =>
    rw [hk] at h1;refine wp_mono h1 fun e a' w' he => ?_;cases e with
    | normal =>
      refine⟨⟨k,he⟩,?_⟩;obtain⟨g1,g2⟩:=hmu a' w' ⟨k,he⟩;exact Nat.lt_succ_of_le (Nat.le_of_not_lt fun hlt=>g2 k hlt he)
    | _=>exact he

def Mat (B:Base) (E:EL) (O:OL) (E':EL) (O':OL):Prop :=
  ∀ (a:Act) (w:World) (σ:Nat→Option Nat) (Z:Nat→Prop),Sim B (look E) (look O) a w σ Z→∃ σ' Z',Sim B (look E') (look O') a w σ' Z'
theorem Mat.refl:Mat B E O E O:=fun _ _ σ Z s=>⟨σ,Z,s⟩
theorem Mat.trans {E1 E2 E3:EL} {O1 O2 O3:OL} (h:Mat B E1 O1 E2 O2) (k:Mat B E2 O2 E3 O3):Mat B E1 O1 E3 O3:=fun a w σ Z s=>by
  obtain⟨σ',Z',s'⟩:=h a w σ Z s;exact k a w σ' Z' s'

theorem AWp.loop {S X:Type} {c:Code} (tb:S→Option (X⊕S)) (pe:S→EL) (po:S→OL) {RX:X→Exit→EL→OL→Prop}
    (hround:∀ s y,tb s=some y→AWp P B c (fun e E' O'=>match y with | .inr s'=>e = .normal∧Mat B E' O' (pe s') (po s') | .inl x=>e ≠ .normal∧RX x e E' O') (pe s) (po s)) :
    ∀ (n:Nat) (s:S) (x:X),(Nat.rec (motive:=fun _=>S→Option X) (fun _=>none) (fun _ ih s=>(tb s).bind fun | .inr s'=>ih s' | .inl x=>some x) n:S→Option X) s=some x →
      AWp P B (.loop c) (RX x) (pe s) (po s):=by
  intro n s x hn a w σ Z sm;refine A9u n a w ?_;induction n generalizing s a w σ Z with
  | zero=>cases hn
  | succ n ih =>
    simp only at hn;obtain⟨y,hy,hn⟩:=Option.bind_eq_some_iff.1 hn;refine wp_mono (hround s y hy a w σ Z sm) fun e a' w' ⟨E',O',σ',Z',q,s'⟩ => ?_;cases y with
    | inr t =>
      obtain⟨rfl,hm⟩:=q;obtain⟨σ'',Z'',s''⟩:=hm a' w' σ' Z' s';exact ih t hn a' w' σ'' Z'' s''
    | inl x' =>
      obtain⟨h1,h2⟩:=q;simp only [Option.some.injEq] at hn;subst hn;cases e with
      | normal=>exact absurd rfl h1
      | _=>exact⟨E',O',σ',Z',h2,s'⟩

theorem AWp.ghost {c:Code} (h:Mat B E O E' O') (hc:AWp P B c Q E' O'):AWp P B c Q E O:=fun a w σ Z s=>by
  obtain⟨σ',Z',s'⟩:=h a w σ Z s;exact hc a w σ' Z' s'
theorem Mat.pat (R:List (Nat×Nat)) (E':EL) (O':OL) (hB:B.ok) (hok:okPat R E' O'=true) (hE:patE E' E=patE' R E') (hO:patO R O' O=patO' R O'):Mat B E O E' O' :=
  fun _ _ _ Z s=>⟨_,Z,s.pat hB R hok hE hO⟩

theorem A9v (k:Nat) (x:V) (E:EL):look ((k,x) :: E)=upd (look E) k x:=by
  funext j;rw [A2,upd]
  by_cases h:k=j
  · subst h;simp
  · rw [if_neg h,if_neg (Ne.symm h)]
theorem L5 (k:Nat) (x:Option Ob) (O:OL):look ((k,x) :: O)=updO (look O) k x:=by
  funext j;rw [A2,updO]
  by_cases h:k=j
  · subst h;simp
  · rw [if_neg h,if_neg (Ne.symm h)]
theorem Mat.freeze {n e sz k off len:Nat} {es fs:List D} (hn:look O n=some (some (.row e sz es))) (hk:look E k=some (.sref n sz off len)) (hle:off+len≤es.length) (hfs:fs=(es.drop off).take len) :
    Mat B E O ((k,.d (.list sz fs)) :: E) ((n,none) :: O):=fun a w σ Z s=>by
  obtain⟨Z',s'⟩:=s.freeze hn hk hle;exact⟨σ,Z',by rw [A9v,L5,hfs];exact s'⟩
-- regions

def putE:List Eff→EL→EL
  | [],E=>E
  | α :: l,E=>putE l (α.wt++E)
def putO:List Eff→OL→OL
  | [],O=>O
  | α :: l,O=>putO l (α.wo++O)
theorem G0 {α:Type} (l l':List (Nat×α)) (k:Nat):look (l++l') k=match look l k with | some x=>some x | none=>look l' k:=by
  induction l with
  | nil=>rfl
  | cons p l ih =>
    obtain⟨j,x⟩:=p;simp only [List.cons_append,A2]
    by_cases h:j=k
    · simp [h]
    · simp only [if_neg h,ih]
theorem A0a (α:Eff) (E:EL):look (α.wt++E)=α.env (look E):=by
  funext k;rw [G0];unfold Eff.env;cases look α.wt k<;>rfl
theorem A0b (α:Eff) (O:OL):look (α.wo++O)=α.obs (look O):=by
  funext k;rw [G0];unfold Eff.obs;cases look α.wo k<;>rfl
theorem Q4:∀ (l:List Eff) (E:EL),finEnv l (look E)=look (putE l E)
  | [],_=>rfl
  | α :: l,E=>by
    simp only [finEnv,putE];rw [← Q4 l (α.wt++E),A0a]
theorem Q5:∀ (l:List Eff) (O:OL),finObs l (look O)=look (putO l O)
  | [],_=>rfl
  | α :: l,O=>by
    simp only [finObs,putO];rw [← Q5 l (α.wo++O),A0b]
def wantE:List Eff→EL→List (Option V)
  | [],_=>[]
  | α :: l,E=>α.nt.map (fun p=>look E p.1)++wantE l (α.wt++E)
def wantE':List Eff→List (Option V)
  | []=>[]
  | α :: l=>α.nt.map (fun p=>some p.2)++wantE' l
def wantO:List Eff→OL→List (Option (Option Ob))
  | [],_=>[]
  | α :: l,O=>α.no.map (fun p=>look O p.1)++(α.nf.map (fun n=>look O n)++wantO l (α.wo++O))
def wantO':List Eff→List (Option (Option Ob))
  | []=>[]
  | α :: l=>α.no.map (fun p=>some (some p.2))++(α.nf.map (fun _=>none)++wantO' l)
theorem N4:∀ (l:List Eff) (E:EL) (O:OL),wantE l E=wantE' l→wantO l O=wantO' l→needsAll l (look E) (look O)
  | [],_,_,_,_=>trivial
  | α :: l,E,O,h1,h2=>by
    simp only [wantE,wantE'] at h1;simp only [wantO,wantO'] at h2;obtain⟨a1,a2⟩:=List.append_inj h1 (by simp);obtain⟨b1,b2⟩:=List.append_inj h2 (by simp);obtain⟨c1,c2⟩:=List.append_inj b2 (by simp);have ih:=N4 l (α.wt++E) (α.wo++O) a2 c2;refine⟨⟨G7 a1,G7 b1,G7 c1⟩,?_⟩;rw [← A0a,← A0b];exact ih

theorem AWp.region {id:Nat} {l:List Oper} {effs:List Eff} (hj:OpJs P B l.toArray l effs) (h1:wantE effs E=wantE' effs) (h2:wantO effs O=wantO' effs) (h:Q .normal (putE effs E) (putO effs O)) :
    AWp P B (.region id l.toArray false) Q E O:=fun a w σ Z s =>
  wp_region_lit (Z7 hj (N4 effs E O h1 h2) s fun a' w' σ' Z' s'=>⟨_,_,σ',Z',h,by rw [← Q4,← Q5];exact s'⟩)
theorem AWp.draws {id:Nat} {l:List Oper} {effs:List Eff} (hm:P.follows .mixedOrders=true) (hj:OpJs P B l.toArray l effs) (hc:noConf l.toArray effs=true) (h1:wantE effs E=wantE' effs) (h2:wantO effs O=wantO' effs) (h:Q .normal (putE effs E) (putO effs O)) :
    AWp P B (.region id l.toArray true) Q E O:=fun a w σ Z s=>by
  refine wp_region_any hm ?_;refine A57 (by simpa using hj) hc (N4 effs E O h1 h2) (fun a' w' σ' Z' s'=>⟨_,_,σ',Z',h,by rw [← Q4,← Q5];exact s'⟩) _ _ (by simp) ?_ ?_ a _ σ Z ?_
  · exact Nat.le_trans (List.length_filter_le _ _) (by simp)
  · intro j o _ hS;simp only [Array.getD_eq_getD_getElem?,Array.getElem?_replicate] at hS;split at hS<;>simp at hS
  · have hf:∀ m,(Array.replicate l.toArray.size false).getD m false=false:=fun m=>by
      simp only [Array.getD_eq_getD_getElem?,Array.getElem?_replicate];split<;>rfl
    rw [M4 _ _ _ _ (fun m _=>hf m),M5 _ _ _ _ (fun m _=>hf m)];exact s.drew
end

-- results and functions

inductive Res (P:Program) (E:EL) (O:OL):List ResultVar→List V→Prop
  | nil:Res P E O [] []
  | tmp {t:Nat} {v:V} {rs:List ResultVar} {vs:List V}:look E t=some v→(v.isTop=false)→Res P E O rs vs→Res P E O (.tmp t :: rs) (v :: vs)
  | tmpC {t:Nat} {v:V} {y:D} {rs:List ResultVar} {vs:List V}:look E t=some v→Co v y→Res P E O rs vs→Res P E O (.tmp t :: rs) (.d y :: vs)
  | cell {a nm bt t n:Nat} {ag:Bool} {c:V} {rs:List ResultVar} {vs:List V}:look E a=some (.ptr nm 0 [])→look O nm=some (some (.box bt c))→TyS P t n ag→c.isAgg=ag→c.sz=n→(c.isTop=false)→Res P E O rs vs→Res P E O (.cell a t :: rs) (c :: vs)
  | cellC {a nm bt t n:Nat} {ag:Bool} {c:V} {y:D} {rs:List ResultVar} {vs:List V}:look E a=some (.ptr nm 0 [])→look O nm=some (some (.box bt c))→TyS P t n ag→c.isAgg=ag→c.sz=n→Co c y→Res P E O rs vs→Res P E O (.cell a t :: rs) (.d y :: vs)

def resOne (tmps:Array Value):ResultVar→Sem Value
  | .tmp t=>pure (tmps.getD t undef)
  | .cell x t=>do loadVar t (← asAddr (tmps.getD x undef))
theorem A58 (fn:Func) (tmps:Array Value):results fn tmps=(do
    let vs ← fn.results.mapM (resOne tmps)
    pure (if h:vs.size=1 then vs[0] else .tuple vs)):=by
  unfold results;congr 1
theorem J8 {α:Type} (f:α→Sem Value) (x:α) (l:List α) (w:World) (v:Value) (vs:List Value) (h1:(f x).run P w = .ok v w) (h2:(l.mapM f).run P w = .ok vs w):((x :: l).mapM f).run P w = .ok (v :: vs) w:=by
  rw [List.mapM_cons];simp only [Sem.run_bind,h1,h2,Result.andThen_ok,Sem.run_pure]

theorem Res.run {E:EL} {O:OL} {a:Act} {w:World} {σ:Nat→Option Nat} {Z:Nat→Prop} (s:Sim B (look E) (look O) a w σ Z):∀ {rs:List ResultVar} {vs:List V},Res P E O rs vs →
    ∃ cs:List Value,RepVs (look O) σ Z w cs vs∧(rs.mapM (resOne a.tmps)).run P w = .ok cs w
  | _,_,.nil=>⟨[],trivial,rfl⟩
  | _,_,.tmp (t:=t) hl hnt hr=>by
    obtain⟨cs,h2,h3⟩:=Res.run s hr;obtain⟨v,hv,hrep⟩:=s.env t _ hl;exact⟨v :: cs,⟨hrep.to hnt,h2⟩,J8 _ _ _ w v cs (by simp [resOne,hv]) h3⟩
  | _,_,.tmpC (t:=t) hl hco hr=>by
    obtain⟨cs,h2,h3⟩:=Res.run s hr;obtain⟨v,hv,hrep⟩:=s.env t _ hl;exact⟨v :: cs,⟨hco.repV (hrep.to hco.notTup),h2⟩,J8 _ _ _ w v cs (by simp [resOne,hv]) h3⟩
  | _,_,.cell (a:=x) (nm:=nm) (bt:=bt) (c:=c) hl ho ht hag hsz _ hr=>by
    obtain⟨cs,h2,h3⟩:=Res.run s hr;obtain⟨v,hv,hrep⟩:=s.env x _ hl;have hlv:live (look O) nm:=⟨_,ho⟩;obtain⟨b,hb,hvv⟩:=G3 hrep hlv;obtain⟨b',cells,hb',hw,hone,hsize,hc⟩:=s.obj nm _ ho;have:b'=b:=Option.some.inj (hb'.symm.trans hb);subst this;have hat:cellsAt w b' 0 cells.toList:=fun j u hj=>by rw [Nat.zero_add,cell_of_row w b' j cells bt (0,0) hw];simpa using hj
    have hrun:=F2 ht hat (by rw [Array.length_toList,hsize,hsz]) (fun h=>by subst hag;subst hsz;exact V.sz_one h);exact⟨_ :: cs,⟨RepV.of_cells hc (by simpa using hsize) hone _ hag,h2⟩,J8 _ _ _ w _ cs (by simp [resOne,hv,hvv,asAddr,hrun]) h3⟩
  | _,_,.cellC (a:=x) (nm:=nm) (bt:=bt) (c:=c) hl ho ht hag hsz hco hr=>by
    obtain⟨cs,h2,h3⟩:=Res.run s hr;obtain⟨v,hv,hrep⟩:=s.env x _ hl;have hlv:live (look O) nm:=⟨_,ho⟩;obtain⟨b,hb,hvv⟩:=G3 hrep hlv;obtain⟨b',cells,hb',hw,hone,hsize,hc⟩:=s.obj nm _ ho;have:b'=b:=Option.some.inj (hb'.symm.trans hb);subst this;have hat:cellsAt w b' 0 cells.toList:=fun j u hj=>by rw [Nat.zero_add,cell_of_row w b' j cells bt (0,0) hw];simpa using hj
    have hrun:=F2 ht hat (by rw [Array.length_toList,hsize,hsz]) (fun h=>by subst hag;subst hsz;exact V.sz_one h);exact⟨_ :: cs,⟨hco.repV (RepV.of_cells hc (by simpa using hsize) hone _ hag),h2⟩,J8 _ _ _ w _ cs (by simp [resOne,hv,hvv,asAddr,hrun]) h3⟩

def resV:List V→V
  | [v]=>v
  | vs => .tup vs

def argE:Nat→List V→EL
  | _,[]=>[]
  | k,v :: vs=>(k,v) :: argE (k+1) vs
theorem A1r:∀ (vs:List V) (k j:Nat),look (argE k vs) j=if k≤j then vs[j-k]? else none
  | [],k,j=>by simp [argE,look]
  | v :: vs,k,j=>by
    simp only [argE];rw [A2,A1r vs (k+1) j]
    by_cases h:k=j
    · subst h;simp
    · rw [if_neg h]
      by_cases h1:k≤j
      · rw [if_pos (by omega),if_pos h1,show j-k=(j-(k+1))+1 from by omega,List.getElem?_cons_succ]
      · rw [if_neg (by omega),if_neg h1]

theorem RepVs.get {ob:Obs} {σ:Nat→Option Nat} {Z:Nat→Prop} {w:World}:∀ {cs:List Value} {vs:List V},RepVs ob σ Z w cs vs→∀ (k:Nat) (v:V),vs[k]? = some v→∃ c,cs[k]? = some c∧RepV ob σ Z w c v
  | [],[],_,_,_,h=>by simp at h
  | _ :: _,_ :: _,h,0,v,hk=>by simp at hk;subst hk;exact⟨_,rfl,h.1⟩
  | _ :: _,_ :: _,h,k+1,v,hk=>by obtain⟨c,h1,h2⟩:=RepVs.get h.2 k v (by simpa using hk);exact⟨c,by simpa using h1,h2⟩
  | [],_ :: _,h,_,_,_=>h.elim
  | _ :: _,[],h,_,_,_=>h.elim
theorem RepVs.length {ob:Obs} {σ:Nat→Option Nat} {Z:Nat→Prop} {w:World}:∀ {cs:List Value} {vs:List V},RepVs ob σ Z w cs vs→cs.length=vs.length
  | [],[],_=>rfl
  | _ :: _,_ :: _,h=>by simp [RepVs.length h.2]
  | [],_ :: _,h=>h.elim
  | _ :: _,[],h=>h.elim

def noTupB (x:V):Bool:=!x.isTop

theorem A1p (pobs:List (Nat×Ob)):(look (pobs.map fun p=>(p.1,some p.2)):Obs)=obOf pobs:=by
  funext n;induction pobs with
  | nil=>rfl
  | cons p l ih =>
    obtain⟨j,o⟩:=p;simp only [List.map_cons,obOf] at ih ⊢;rw [A2,A2]
    by_cases h:j=n
    · simp [h]
    · rw [if_neg h,if_neg h];exact ih

end Go.Vc
namespace Go.Vc
open Go
variable {P:Program} {B:Base} {ops:Array Oper}

inductive OpdL:List Operand→List V→List (Nat×V)→Prop
  | nil:OpdL [] [] []
  | cons {x:Operand} {v:V} {nt nt':List (Nat×V)} {xs:List Operand} {vs:List V}:Opd x v nt→OpdL xs vs nt'→OpdL (x :: xs) (v :: vs) (nt++nt')

theorem OpdL.rep {env:Env} {ob:Obs} {a:Act} {w:World} {σ:Nat→Option Nat} {Z:Nat→Prop} (s:Sim B env ob a w σ Z):∀ {xs:List Operand} {vs:List V} {nt:List (Nat×V)},OpdL xs vs nt→(∀ p∈nt,env p.1=some p.2)→vs.all noTupB=true →
    RepVs ob σ Z w (xs.map a.eval) vs
  | _,_,_,.nil,_,_=>trivial
  | _,_,_,.cons hx hxs,hn,ht=>by
    obtain⟨h1,h2⟩:=A4 hn;simp only [List.all_cons,Bool.and_eq_true] at ht;exact⟨(hx B env ob a w σ Z s h1).to (by simpa [noTupB] using ht.1),OpdL.rep s hxs h2 ht.2⟩

structure FnOk (P:Program) (f:FuncId):Prop where
  get:(P.funcs[f]?).map (fun fn=>(fn.name == "runtime.NumGoroutine",fn.body.isNone))=some (false,false)
theorem FnOk.run {f:FuncId} (h:FnOk P f) (args:Array Value) (w:World):(callFunc f args).run P w = .ok (.enter f args) w:=by
  have:=h.get;cases hf:P.funcs[f]? with
  | none=>simp [hf] at this
  | some fn =>
    simp only [hf,Option.map_some,Option.some.injEq,Prod.mk.injEq] at this;have h1:¬ fn.name = "runtime.NumGoroutine":=by simpa using this.1
    have h2:¬ fn.body=none:=fun e=>by rw [e] at this;simp at this
    simp [callFunc,hf,h1,h2]

def renO (R:List (Nat×Nat)) (robs:OL):OL:=robs.map fun p=>(rnm R p.1,p.2.map (Ob.ren (rnm R)))
def renP (R:List (Nat×Nat)) (pobs:List (Nat×Ob)):List (Nat×Ob):=pobs.map fun p=>(rnm R p.1,p.2.ren (rnm R))
def newNames (R:List (Nat×Nat)) (pobs:List (Nat×Ob)) (robs:OL):List Nat:=(robs.filter fun p => !memB p.1 (keys pobs)).map fun p=>rnm R p.1

def okCall (R:List (Nat×Nat)) (args:List V) (pobs:List (Nat×Ob)) (robs:OL):Bool :=
  args.all noTupB&&(args.all fun v=>v.names.all fun n=>memB n (keys pobs)) &&
  (pobs.all fun p=>p.2.names.all fun n=>memB n (keys pobs)) &&
  (robs.all fun p=>robs.all fun q => !Nat.beq (rnm R p.1) (rnm R q.1) || Nat.beq p.1 q.1) &&
  (pobs.all fun p=>memB p.1 (keys robs)&&Nat.blt p.1 1000) &&
  (robs.all fun p=>memB p.1 (keys pobs) || Nat.ble 1000 (rnm R p.1)) &&
  (robs.all fun p=>match p.2 with | some o=>o.noReg | none=>true)

theorem A1s {R:List (Nat×Nat)}:∀ {robs:OL},(∀ p∈robs,∀ q∈robs,rnm R p.1=rnm R q.1→p.1=q.1)→∀ n∈keys robs,look (renO R robs) (rnm R n)=(look robs n).map (Option.map (Ob.ren (rnm R)))
  | [],_,n,hn=>by simp [keys] at hn
  | p :: robs,hinj,n,hn=>by
    obtain⟨m,x⟩:=p;simp only [renO,List.map_cons];rw [A2,A2]
    by_cases h:m=n
    · subst h;simp
    · have hn':n∈keys robs:=by
        simp only [keys,List.map_cons,List.mem_cons] at hn;rcases hn with hn | hn
        · exact absurd hn.symm h
        · exact hn
      have hne:rnm R m≠rnm R n:=fun e=>h (by
        obtain⟨q,hq,hqn⟩:=List.mem_map.1 hn';have:=hinj (m,x) (List.mem_cons_self ..) q (List.mem_cons_of_mem _ hq) (by rw [hqn];exact e);rw [← hqn];exact this)
      rw [if_neg hne,if_neg h];exact A1s (fun p hp q hq=>hinj p (List.mem_cons_of_mem _ hp) q (List.mem_cons_of_mem _ hq)) n hn'
theorem Q6 {R:List (Nat×Nat)}:∀ {robs:OL} {m:Nat},(∀ n∈keys robs,rnm R n≠m)→look (renO R robs) m=none
  | [],_,_=>rfl
  | p :: robs,m,h=>by
    obtain⟨n,x⟩:=p;simp only [renO,List.map_cons];rw [A2,if_neg (h n (by simp [keys]))];exact Q6 fun k hk=>h k (by simp only [keys,List.map_cons,List.mem_cons];exact .inr hk)

def sigR (R:List (Nat×Nat)) (robs:OL) (σ' σ:Nat→Option Nat):Nat→Option Nat:=fun m=>match robs.find? fun p=>Nat.beq (rnm R p.1) m with | some p=>σ' p.1 | none=>σ m

theorem B2a {R:List (Nat×Nat)} {robs:OL} {σ' σ:Nat→Option Nat} (hinj:∀ p∈robs,∀ q∈robs,rnm R p.1=rnm R q.1→p.1=q.1) {n:Nat} (hn:n∈keys robs):sigR R robs σ' σ (rnm R n)=σ' n:=by
  unfold sigR;cases hf:robs.find? fun p=>Nat.beq (rnm R p.1) (rnm R n) with
  | none =>
    obtain⟨q,hq,hqn⟩:=List.mem_map.1 hn;have:=List.find?_eq_none.1 hf q hq;rw [hqn] at this;simp at this
  | some p =>
    have h1:=List.find?_some hf;have h2:=List.mem_of_find?_eq_some hf;obtain⟨q,hq,hqn⟩:=List.mem_map.1 hn;have:=hinj p h2 q hq (by rw [hqn];exact Nat.eq_of_beq_eq_true h1);simp only [this,hqn]
theorem A9w {R:List (Nat×Nat)} {robs:OL} {σ' σ:Nat→Option Nat} {m:Nat} (h:∀ n∈keys robs,rnm R n≠m):sigR R robs σ' σ m=σ m:=by
  unfold sigR;have:robs.find? (fun p=>Nat.beq (rnm R p.1) m)=none:=by
    refine List.find?_eq_none.2 fun p hp hb=>h p.1 (List.mem_map.2 ⟨p,hp,rfl⟩) (Nat.eq_of_beq_eq_true hb)
  rw [this]

theorem Sim.call {env:Env} {ob:Obs} {a:Act} {w:World} {σ:Nat→Option Nat} {Z:Nat→Prop} (s:Sim B env ob a w σ Z) (hB:B.ok) {R:List (Nat×Nat)} {args:List V} {pobs:List (Nat×Ob)} {res:V} {robs:OL} (hok:okCall R args pobs robs=true)
    (hno:∀ p∈renP R pobs,ob p.1=some (some p.2)) (hnf:∀ n∈newNames R pobs robs,ob n=none) {cv:Value} {w':World} {σ':Nat→Option Nat} {Z':Nat→Prop} (hp:Post (obOf pobs) w (fun n=>σ (rnm R n)) Z res robs cv w' σ' Z') :
    Sim B env (fun n=>match look (renO R robs) n with | some x=>some x | none=>ob n) a w' (sigR R robs σ' σ) Z' ∧
    RepT (fun n=>match look (renO R robs) n with | some x=>some x | none=>ob n) (sigR R robs σ' σ) Z' w' cv (res.ren (rnm R)):=by
  simp only [okCall,Bool.and_eq_true,List.all_eq_true] at hok;obtain⟨⟨⟨⟨⟨⟨_,_⟩,_⟩,k4⟩,k5⟩,k6⟩,k7⟩:=hok;have hinj:∀ p∈robs,∀ q∈robs,rnm R p.1=rnm R q.1→p.1=q.1:=fun p hpm q hq e=>by
    have:=k4 p hpm q hq;rw [e] at this;simp only [Bool.or_eq_true] at this;rcases this with h | h
    · simp at h
    · exact Nat.eq_of_beq_eq_true h
  let r:=rnm R
  let ob2:Obs:=fun n=>match look (renO R robs) n with | some x=>some x | none=>ob n
  let σ2:=sigR R robs σ' σ
  show Sim B env ob2 a w' σ2 Z'∧RepT ob2 σ2 Z' w' cv (res.ren r)
  -- who is touched
  have dec:∀ m,(∃ n,n∈keys robs∧r n=m)∨(∀ n∈keys robs,r n≠m):=fun m=>by
    by_cases h:∃ n,n∈keys robs∧r n=m
    · exact .inl h
    · exact .inr fun n hn e=>h ⟨n,hn,e⟩
  have ob2_in:∀ n∈keys robs,ob2 (r n)=(look robs n).map (Option.map (Ob.ren r)):=fun n hn=>by
    show(match look (renO R robs) (rnm R n) with | some x=>some x | none=>ob (rnm R n))=_
    rw [A1s hinj n hn];cases hl:look robs n with
    | none=>exact absurd hl (F9 hn)
    | some x=>rfl
  have ob2_out:∀ m,(∀ n∈keys robs,r n≠m)→ob2 m=ob m:=fun m h=>by
    show(match look (renO R robs) m with | some x=>some x | none=>ob m)=_
    rw [Q6 h]
  have param:∀ n,n∈keys pobs→∃ o,look pobs n=some o∧ob (r n)=some (some (o.ren r))∧n<1000∧n∈keys robs:=fun n hn=>by
    cases hl:look pobs n with
    | none=>exact absurd hl (F9 hn)
    | some o =>
      have hm:=D3 hl;have h5:=k5 (n,o) hm;refine⟨o,rfl,hno (rnm R n,o.ren (rnm R)) (List.mem_map.2 ⟨(n,o),hm,rfl⟩),?_,I3 h5.1⟩;have:=h5.2;have h9:n+1≤1000:=Nat.le_of_ble_eq_true this;omega
  have newN:∀ n∈keys robs,n∉keys pobs→ob (r n)=none∧1000≤r n:=fun n hn hnp=>by
    obtain⟨q,hq,rfl⟩:=List.mem_map.1 hn;have hb:memB q.1 (keys pobs)=false:=by
      cases hb:memB q.1 (keys pobs) with
      | false=>rfl
      | true=>exact absurd (I3 hb) hnp
    refine⟨hnf _ (List.mem_map.2 ⟨q,List.mem_filter.2 ⟨hq,by simp [hb]⟩,rfl⟩),?_⟩;have:=k6 q hq;simp only [hb,Bool.or_eq_true] at this;rcases this with h | h
    · cases h
    · exact Nat.le_of_ble_eq_true h
  have livePob:∀ n,n∈keys pobs→live (obOf pobs) n:=fun n hn=>by
    obtain⟨o,ho,_⟩:=param n hn;exact⟨o,by simp [obOf,ho]⟩
  have pobLive:∀ n,live (obOf pobs) n→n∈keys pobs:=fun n ⟨o,ho⟩=>by
    simp only [obOf,Option.map_eq_some_iff] at ho;obtain⟨o',h1,_⟩:=ho;exact J7 (by rw [h1];simp)
  -- live names behind the call
  have live2:∀ m,live ob2 m→(∃ n,n∈keys robs∧r n=m∧live (look robs) n)∨((∀ n∈keys robs,r n≠m)∧live ob m):=fun m hl=>by
    rcases dec m with ⟨n,hn,rfl⟩ | h
    · left;obtain⟨o,ho⟩:=hl;rw [ob2_in n hn] at ho;cases hq:look robs n with
      | none=>exact absurd hq (F9 hn)
      | some x =>
        rw [hq] at ho;cases x with
        | none=>simp at ho
        | some o'=>exact⟨n,hn,rfl,⟨o',hq⟩⟩
    · right;obtain⟨o,ho⟩:=hl;rw [ob2_out m h] at ho;exact⟨h,⟨o,ho⟩⟩
  have σ2_in:∀ n∈keys robs,σ2 (r n)=σ' n:=fun n hn=>B2a hinj hn;have σ2_out:∀ m,(∀ n∈keys robs,r n≠m)→σ2 m=σ m:=fun m h=>A9w h;have pinEq:∀ n,n∈keys pobs→live (look robs) n→σ' n=σ (r n):=fun n hn hl=>by
    obtain⟨o,ho,hob,hlt,hk⟩:=param n hn;exact hp.pin n hlt (livePob n hn) hl
  have touched:∀ m b,live ob m→σ m=some b→(∀ n∈keys pobs,r n≠m)→w'.heap[b]? = w.heap[b]? :=fun m b hl hb hm =>
    hp.block b (s.lt hl hb) fun⟨k,hk,hkb⟩=>by
      obtain⟨o,_,hob,_,_⟩:=param k (pobLive k hk);exact hm k (pobLive k hk) (s.inj _ _ b ⟨_,hob⟩ hl hkb hb)
  have zsame:∀ b,Z b→w'.heap[b]? = w.heap[b]? :=fun b hz=>hp.block b (s.zlt b hz) fun⟨k,hk,hkb⟩=>by
    obtain⟨o,_,hob,_,_⟩:=param k (pobLive k hk);exact(s.blk _ b ⟨_,hob⟩ hkb).1 hz
  have m:Move ob ob2 σ σ2 Z Z' w w':=by
    refine⟨⟨hp.zsub,zsame⟩,fun n hu => ?_,fun n hu hl => ?_,fun n b hu hl hb => ?_⟩
    · rcases dec n with ⟨k,hk,rfl⟩ | h
      · unfold used;rw [ob2_in k hk];cases hq:look robs k with
        | none=>exact absurd hq (F9 hk)
        | some x=>simp
      · unfold used;rw [ob2_out n h];exact hu
    · rcases live2 n hl with ⟨k,hk,rfl,hlk⟩ | ⟨h,hl'⟩
      · have hkp:k∈keys pobs:=Classical.byContradiction fun hc=>hu (newN k hk hc).1;obtain⟨o,_,hob,_,_⟩:=param k hkp;exact⟨⟨_,hob⟩,by rw [σ2_in k hk,pinEq k hkp hlk]⟩
      · exact⟨hl',σ2_out n h⟩
    · rcases live2 n hl with ⟨k,hk,rfl,hlk⟩ | ⟨h,hl'⟩
      · have hkp:k∈keys pobs:=Classical.byContradiction fun hc=>hu (newN k hk hc).1;obtain⟨o,_,hob,hlt,_⟩:=param k hkp;exact hp.shp k b hlt (livePob k hkp) hlk hb
      · simp only [World.shape?,touched n b hl' hb (fun k hk=>h k (param k hk).choose_spec.2.2.2)]
  have fore:Fore r (look robs) ob2 σ' σ2:=by
    refine⟨fun n hu => ?_,fun n hu hl => ?_⟩
    · have hn:n∈keys robs:=J7 hu;unfold used;rw [ob2_in n hn];cases hq:look robs n with
      | none=>exact absurd hq hu
      | some x=>simp
    · have hn:n∈keys robs:=J7 hu;refine⟨?_,σ2_in n hn⟩;obtain⟨o,ho⟩:=hl;rw [ob2_in n hn] at ho;cases hq:look robs n with
      | none=>exact absurd hq hu
      | some x =>
        rw [hq] at ho;cases x with
        | none=>simp at ho
        | some o'=>exact⟨o',hq⟩
  refine⟨{ s with env:=?_,obj:=?_,inj:=?_,blk:=?_,zlt:=hp.zlt,pin:=?_,shp:=?_,os:=hp.os.trans s.os,tape:=hp.tape.trans s.tape,output:=hp.output.trans s.output,size:=Nat.le_trans s.size hp.size,zsub:=fun b h=>hp.zsub b (s.zsub b h),znew:=?_,block:=?_,foot:=?_ },hp.res.doren fore⟩
  · intro k x hk;obtain⟨v,h1,h2⟩:=s.env k x hk;exact⟨v,h1,h2.move m⟩
  · intro q o hq;rcases live2 q ⟨o,hq⟩ with ⟨n,hn,rfl,hl⟩ | ⟨h,hl⟩
    · obtain⟨o',ho'⟩:=hl;rw [ob2_in n hn,ho'] at hq;simp only [Option.map_some,Option.some.injEq] at hq;subst hq;exact Ob.doren fore (σ2_in n hn) (hp.obj n o' ho')
    · rw [ob2_out q h] at hq;exact Ob.rep_move m (s.obj q o hq) (σ2_out q h) (fun b hb=>touched q b ⟨o,hq⟩ hb (fun k hk=>h k (param k hk).choose_spec.2.2.2))
  · intro p q b hlp hlq hpb hqb;rcases live2 p hlp with ⟨n,hn,rfl,hl⟩ | ⟨h,hl⟩<;>rcases live2 q hlq with ⟨n',hn',rfl,hl'⟩ | ⟨h',hl'⟩
    · rw [σ2_in n hn] at hpb;rw [σ2_in n' hn'] at hqb;rw [hp.inj n n' b hl hl' hpb hqb]
    · rw [σ2_in n hn] at hpb;rw [σ2_out q h'] at hqb;exfalso;rcases(hp.blk n b hl hpb).2 with h1 | ⟨k,hk,hkb⟩
      · have:=s.lt hl' hqb;omega
      · obtain⟨o,_,hob,_,hkr⟩:=param k (pobLive k hk);exact h' k hkr (s.inj _ _ b ⟨_,hob⟩ hl' hkb hqb)
    · rw [σ2_out p h] at hpb;rw [σ2_in n' hn'] at hqb;exfalso;rcases(hp.blk n' b hl' hqb).2 with h1 | ⟨k,hk,hkb⟩
      · have:=s.lt hl hpb;omega
      · obtain⟨o,_,hob,_,hkr⟩:=param k (pobLive k hk);exact h k hkr (s.inj _ _ b ⟨_,hob⟩ hl hkb hpb)
    · rw [σ2_out p h] at hpb;rw [σ2_out q h'] at hqb;exact s.inj p q b hl hl' hpb hqb
  · intro q b hlq hb;rcases live2 q hlq with ⟨n,hn,rfl,hl⟩ | ⟨h,hl⟩
    · rw [σ2_in n hn] at hb;obtain⟨h1,h2⟩:=hp.blk n b hl hb;refine⟨h1,?_⟩;rcases h2 with h2 | ⟨k,hk,hkb⟩
      · exact .inl (Nat.le_trans s.size h2)
      · obtain⟨o,_,hob,_,_⟩:=param k (pobLive k hk);exact(s.blk _ b ⟨_,hob⟩ hkb).2
    · rw [σ2_out q h] at hb;obtain⟨h1,h2⟩:=s.blk q b hl hb;refine⟨fun hz => ?_,h2⟩;rcases hp.znew b hz with h3 | h3 | ⟨k,hk,hkb⟩
      · exact h1 h3
      · have:=s.lt hl hb;omega
      · obtain⟨o,_,hob,_,hkr⟩:=param k (pobLive k hk);exact h k hkr (s.inj _ _ b ⟨_,hob⟩ hl hkb hb)
  · intro q b hpin hlq;rcases live2 q hlq with ⟨n,hn,rfl,hl⟩ | ⟨h,hl⟩
    · have hkp:n∈keys pobs:=Classical.byContradiction fun hc=>by have:=(newN n hn hc).2;have:=hB _ b hpin;omega
      obtain⟨o,_,hob,_,_⟩:=param n hkp;show σ2 (r n)=b;rw [σ2_in n hn,pinEq n hkp hl];exact s.pin _ b hpin ⟨_,hob⟩
    · show σ2 q=b;rw [σ2_out q h];exact s.pin q b hpin hl
  · intro q b hpin hlq;rcases live2 q hlq with ⟨n,hn,rfl,hl⟩ | ⟨h,hl⟩
    · have hkp:n∈keys pobs:=Classical.byContradiction fun hc=>by have:=(newN n hn hc).2;have:=hB _ b hpin;omega
      obtain⟨o,_,hob,hlt,_⟩:=param n hkp;have hσ:=s.pin _ b hpin ⟨_,hob⟩;rw [hp.shp n b hlt (livePob n hkp) hl hσ];exact s.shp _ b hpin ⟨_,hob⟩
    · have hσ:=s.pin q b hpin hl;rw [← s.shp q b hpin hl];simp only [World.shape?,touched q b hl hσ (fun k hk=>h k (param k hk).choose_spec.2.2.2)]
  · intro b hz;rcases hp.znew b hz with h | h | ⟨k,hk,hkb⟩
    · exact s.znew b h
    · exact .inr (.inl (Nat.le_trans s.size h))
    · obtain⟨o,_,hob,_,_⟩:=param k (pobLive k hk);exact .inr (s.blk _ b ⟨_,hob⟩ hkb).2
  · intro k hk hown;rw [hp.block k (Nat.lt_of_lt_of_le hk s.size) fun⟨q,hq,hqb⟩=>by
      obtain⟨o,_,hob,_,_⟩:=param q (pobLive q hq);rcases(s.blk _ k ⟨_,hob⟩ hqb).2 with h | h
      · omega
      · exact hown h]
    exact s.block k hk hown
  · have reg2:∀ n r',ob2 n=some (some (.reg r'))→(∀ k∈keys robs,r k≠n)∧ob n=some (some (.reg r')):=fun n r' hn=>by
      rcases dec n with ⟨k,hk,rfl⟩ | h
      · exfalso;rw [ob2_in k hk] at hn;cases hq:look robs k with
        | none=>exact absurd hq (F9 hk)
        | some x =>
          rw [hq] at hn;cases x with
          | none=>simp at hn
          | some o =>
            have h7:=k7 (k,some o) (D3 hq);cases o<;>simp [Ob.ren] at hn;simp [Ob.noReg] at h7
      · rw [ob2_out n h] at hn;exact⟨h,hn⟩
    refine s.foot.move m.ext hp.size (fun n r' hn=>⟨(reg2 n r' hn).2,σ2_out n (reg2 n r' hn).1⟩) (fun n b ⟨r',hn⟩ hb=>touched n b ⟨_,(reg2 n r' hn).2⟩ hb fun k hk=>(reg2 n r' hn).1 k (param k hk).choose_spec.2.2.2) (fun b _ hl hnn=>hp.block b hl fun⟨k,hk,hkb⟩ => ?_) (fun b hz => ?_) fun q b hq hb => ?_
    · obtain⟨o,_,hob,_,_⟩:=param k (pobLive k hk);exact hnn _ ⟨_,hob⟩ hkb
    · rcases hp.znew b hz with h | h | ⟨k,hk,hkb⟩
      · exact .inl h
      · exact .inr (.inl h)
      · obtain⟨o,_,hob,_,_⟩:=param k (pobLive k hk);exact .inr (.inr ⟨_,⟨_,hob⟩,hkb⟩)
    · rcases live2 q hq with ⟨n,hn,rfl,hl⟩ | ⟨h,hl⟩
      · rw [σ2_in n hn] at hb;rcases(hp.blk n b hl hb).2 with h2 | ⟨k,hk,hkb⟩
        · exact .inl h2
        · obtain⟨o,_,hob,_,_⟩:=param k (pobLive k hk);exact .inr ⟨_,⟨_,hob⟩,hkb⟩
      · rw [σ2_out q h] at hb;exact .inr ⟨q,hl,hb⟩

theorem Sim.pre {env:Env} {ob:Obs} {a:Act} {w:World} {σ:Nat→Option Nat} {Z:Nat→Prop} (s:Sim B env ob a w σ Z) {R:List (Nat×Nat)} {args:List V} {pobs:List (Nat×Ob)} {robs:OL} (hok:okCall R args pobs robs=true)
    (hno:∀ p∈renP R pobs,ob p.1=some (some p.2)) {cs:List Value} (hargs:RepVs ob σ Z w cs (V.renL (rnm R) args)):Pre (obOf pobs) w (fun n=>σ (rnm R n)) Z args cs:=by
  simp only [okCall,Bool.and_eq_true,List.all_eq_true] at hok;obtain⟨⟨⟨⟨⟨⟨k1,k2⟩,k3⟩,k4⟩,k5⟩,k6⟩,_⟩:=hok;have lv:∀ n o,look pobs n=some o→ob (rnm R n)=some (some (o.ren (rnm R))):=fun n o h=>hno (rnm R n,o.ren (rnm R)) (List.mem_map.2 ⟨(n,o),D3 h,rfl⟩);have lv':∀ n,live (obOf pobs) n→∃ o,look pobs n=some o:=fun n ⟨o,ho⟩=>by
    simp only [obOf,Option.map_eq_some_iff] at ho;obtain⟨o',h1,_⟩:=ho;exact⟨o',h1⟩
  have back:∀ ns:List Nat,(∀ n∈ns,memB n (keys pobs)=true)→Back (rnm R) ob (obOf pobs) σ (fun n=>σ (rnm R n)) ns:=fun ns h =>
    ⟨fun n hn=>by
      have:=F9 (I3 (h n hn));unfold used obOf;cases hl:look pobs n with
      | none=>exact absurd hl this
      | some o=>simp,fun n _ hl=>by
      obtain⟨o,ho⟩:=lv' n hl;exact⟨⟨_,lv n o ho⟩,rfl⟩⟩
  refine⟨hargs.unren (back _ ?_),fun n o hn => ?_,fun p q b hp hq hpb hqb => ?_,fun n b hl hb => ?_,s.zlt⟩
  · have:∀ (vs:List V),(∀ v∈vs,∀ n∈v.names,memB n (keys pobs)=true)→∀ n∈V.namesL vs,memB n (keys pobs)=true:=by
      intro vs;induction vs with
      | nil=>intro _ n hn;cases hn
      | cons v vs ih =>
        intro h n hn;rcases List.mem_append.1 hn with hn | hn
        · exact h v (List.mem_cons_self ..) n hn
        · exact ih (fun v' hv'=>h v' (List.mem_cons_of_mem _ hv')) n hn
    exact this args (fun v hv=>by have:=k2 v hv;simpa [List.all_eq_true] using this)
  · simp only [obOf,Option.map_eq_some_iff,Option.some.injEq] at hn;obtain⟨o',h1,h2⟩:=hn;subst h2;have hb:=k3 (n,o') (D3 h1);exact Ob.unren (back _ hb) rfl (s.obj _ _ (lv n o' h1))
  · obtain⟨o,ho⟩:=lv' p hp;obtain⟨o',ho'⟩:=lv' q hq;have:=s.inj _ _ b ⟨_,lv p o ho⟩ ⟨_,lv q o' ho'⟩ hpb hqb;have h5:=(k5 (p,o) (D3 ho)).1;have h5':=(k5 (q,o') (D3 ho')).1;obtain⟨x,hx,hxp⟩:=List.mem_map.1 (I3 h5);obtain⟨y,hy,hyq⟩:=List.mem_map.1 (I3 h5');have h4:=k4 x hx y hy;rw [hxp,hyq] at h4;simp only at h4;rw [this] at h4;simp only [Bool.or_eq_true] at h4;rcases h4 with h | h
    · simp at h
    · exact Nat.eq_of_beq_eq_true h
  · obtain⟨o,ho⟩:=lv' n hl;exact(s.blk _ b ⟨_,lv n o ho⟩ hb).1

section
variable {d:Nat} {ty:TypeId} {pos:String} {af:Array Edge} {nt nt':List (Nat×V)}

def callEff (nt:List (Nat×V)) (d:Nat) (R:List (Nat×Nat)) (pobs:List (Nat×Ob)) (res:V) (robs:OL):Eff :=
  { nt,no:=renP R pobs,nf:=newNames R pobs robs,wt:=[(d,res.ren (rnm R))],wo:=renO R robs }

theorem OpJ.callFn {f:FuncId} {xs:List Operand} {ts:Array TypeId} {args:List V} {pobs:List (Nat×Ob)} {res:V} {robs:OL} (hB:B.ok) (hfn:FnOk P f) (hac:AC P f args pobs res robs) (R:List (Nat×Nat)) (hok:okCall R args pobs robs=true) (hN:d<B.N)
    (hnt:(V.renL (rnm R) args).all noTupB=true) (hx:OpdL xs (V.renL (rnm R) args) nt) :
    OpJ P B ops ⟨some d,.call { callee:=.value (.func f),args:=xs.toArray,argTypes:=ts },ty,pos,af,none⟩ (callEff nt d R pobs res robs):=by
  intro Q env ob a w σ Z K s hn hK;have hargs:=hx.rep s hn.1 hnt;have pre:=s.pre hok hn.2.1 hargs;have hrun:(execOp a.eval ⟨some d,.call { callee:=.value (.func f),args:=xs.toArray,argTypes:=ts },ty,pos,af,none⟩).run P w = .ok (.enter f (xs.map a.eval).toArray) w:=by
    simp only [execOp,resolve,Act.eval,Deferred.ofValue,Sem.run_bind,Sem.run_pure,Result.andThen_ok,invoke,List.map_toArray,Array.empty_append,Array.append_empty,hfn.run]
  rw [if_pos (by simp [Region.wanted])];unfold Oper.wp;rw [hrun,Oper.upon_enter];refine(hac w _ Z _ pre).mono fun e w' ⟨cv,σ',Z',he,hp⟩ => ?_;subst he;obtain⟨s',hr⟩:=s.call hB hok hn.2.1 hn.2.2 hp;refine hK _ _ (sigR R robs σ' σ) Z' ?_;rw [H0 _ rfl];exact s'.put hN hr
theorem OpJ.callFn0 {f:FuncId} {xs:List Operand} {ts:Array TypeId} {args:List V} {pobs:List (Nat×Ob)} {res:V} {robs:OL} (hB:B.ok) (hfn:FnOk P f) (hac:AC P f args pobs res robs) (R:List (Nat×Nat)) (hok:okCall R args pobs robs=true)
    (hnt:(V.renL (rnm R) args).all noTupB=true) (hx:OpdL xs (V.renL (rnm R) args) nt) :
    OpJ P B ops ⟨none,.call { callee:=.value (.func f),args:=xs.toArray,argTypes:=ts },ty,pos,af,none⟩ { callEff nt 0 R pobs res robs with wt:=[] }:=by
  intro Q env ob a w σ Z K s hn hK;have hargs:=hx.rep s hn.1 hnt;have pre:=s.pre hok hn.2.1 hargs;have hrun:(execOp a.eval ⟨none,.call { callee:=.value (.func f),args:=xs.toArray,argTypes:=ts },ty,pos,af,none⟩).run P w = .ok (.enter f (xs.map a.eval).toArray) w:=by
    simp only [execOp,resolve,Act.eval,Deferred.ofValue,Sem.run_bind,Sem.run_pure,Result.andThen_ok,invoke,List.map_toArray,Array.empty_append,Array.append_empty,hfn.run]
  rw [if_pos (by simp [Region.wanted])];unfold Oper.wp;rw [hrun,Oper.upon_enter];refine(hac w _ Z _ pre).mono fun e w' ⟨cv,σ',Z',he,hp⟩ => ?_;subst he;obtain⟨s',hr⟩:=s.call hB hok hn.2.1 hn.2.2 hp;refine hK _ _ (sigR R robs σ' σ) Z' ?_;rw [A0p _ rfl];exact s'

theorem Z9 (r:Nat→Nat):∀ (xs ys:List V),V.renL r (xs++ys)=V.renL r xs++V.renL r ys
  | [],_=>rfl
  | x :: xs,ys=>by simp only [List.cons_append,V.renL,Z9 r xs ys]
theorem OpJ.callVal {t:Nat} {f:FuncId} {caps:List V} {xs:List Operand} {ts:Array TypeId} {args:List V} {pobs:List (Nat×Ob)} {res:V} {robs:OL} (hB:B.ok) (hfn:FnOk P f) (R:List (Nat×Nat)) (hac:AC P f (args++caps) pobs res robs) (hok:okCall R (args++caps) pobs robs=true) (hN:d<B.N)
    (hnt:(V.renL (rnm R) args).all noTupB=true) (hcap:(V.renL (rnm R) caps).all (fun v => !v.isAgg)=true) (hx:OpdL xs (V.renL (rnm R) args) nt) :
    OpJ P B ops ⟨some d,.call { callee:=.value (.tmp t),args:=xs.toArray,argTypes:=ts },ty,pos,af,none⟩ (callEff (nt++[(t,.func f (V.renL (rnm R) caps))]) d R pobs res robs):=by
  intro Q env ob a w σ Z K s hn hK;obtain⟨n1,n2⟩:=A4 hn.1;have hargs:=hx.rep s n1 hnt;have hf:=Opd.tmp t (.func f (V.renL (rnm R) caps)) B env ob a w σ Z s n2;obtain⟨cvs,hv,hreps⟩:=(And.left hf);have hv':a.eval (.tmp t) = .func (.func f) #[] cvs.toArray:=by simpa using hv
  have hcs:∀ (vs:List V) (cs:List Value),V.repL ob σ Z w vs cs→vs.all (fun v => !v.isAgg)=true→RepVs ob σ Z w cs vs:=by
    intro vs;induction vs with
    | nil=>intro cs h _;cases h;trivial
    | cons v vs ih =>
      intro cs h ht;obtain⟨c,rest,e,g0,g1,g2⟩:=h;subst e;simp only [List.all_cons,Bool.and_eq_true,Bool.not_eq_true'] at ht;refine⟨?_,ih rest g2 ht.2⟩;unfold RepV;rw [if_neg (by simp [ht.1])];exact⟨g1,.inr g0⟩
  have happ:∀ (v1 v2:List V) (c1 c2:List Value),RepVs ob σ Z w c1 v1→RepVs ob σ Z w c2 v2→RepVs ob σ Z w (c1++c2) (v1++v2):=by
    intro v1;induction v1 with
    | nil=>intro v2 c1 c2 h k;cases c1 with | nil=>exact k | cons _ _=>exact h.elim
    | cons v v1 ih=>intro v2 c1 c2 h k;cases c1 with | nil=>exact h.elim | cons c c1=>exact⟨h.1,ih v2 c1 c2 h.2 k⟩
  have pre:=s.pre hok hn.2.1 (by rw [Z9];exact happ _ _ _ _ hargs (hcs _ _ hreps hcap));have hrun:(execOp a.eval ⟨some d,.call { callee:=.value (.tmp t),args:=xs.toArray,argTypes:=ts },ty,pos,af,none⟩).run P w = .ok (.enter f (xs.map a.eval++cvs).toArray) w:=by
    have he:(#[]++(xs.map a.eval).toArray)++cvs.toArray=(xs.map a.eval++cvs).toArray:=by simp
    simp only [execOp,resolve,hv',Deferred.ofValue,Sem.run_bind,Sem.run_pure,Result.andThen_ok,invoke,List.map_toArray,he,hfn.run]
  rw [if_pos (by simp [Region.wanted])];unfold Oper.wp;rw [hrun,Oper.upon_enter];refine(hac w _ Z _ pre).mono fun e w' ⟨cv,σ',Z',he,hp⟩ => ?_;subst he;obtain⟨s',hr⟩:=s.call hB hok hn.2.1 hn.2.2 hp;refine hK _ _ (sigR R robs σ' σ) Z' ?_;rw [H0 _ rfl];exact s'.put hN hr
end
end Go.Vc
namespace Go.Vc
open Go
variable {P:Program} {B:Base} {ops:Array Oper}

theorem OpJ.val {o:Oper} {nt:List (Nat×V)} {no:List (Nat×Ob)} {nf:List Nat} {d:Nat} {v v':V} {wo:OL} (e:v=v') (h:OpJ P B ops o { nt,no,nf,wt:=[(d,v)],wo }):OpJ P B ops o { nt,no,nf,wt:=[(d,v')],wo }:=e ▸ h

section
variable {d:Nat} {ty:TypeId} {pos:String} {af:Array Edge} {nt nt':List (Nat×V)} {x y c:Operand}

def V.isOpt:V→Bool
  | .opt .. => true
  | _=>false

inductive OptL (g:Bool):List (Nat×V)→List (Nat×V)→Prop
  | nil:OptL g [] []
  | keep {t:Nat} {v:V} {l l':List (Nat×V)}:v.isOpt=false→OptL g l l'→OptL g ((t,v) :: l) ((t,v) :: l')
  | opt {t:Nat} {v:V} {l l':List (Nat×V)}:OptL g l l'→OptL g ((t,v) :: l) ((t,.opt g v) :: l')

def deopt (env:Env):Env:=fun k=>match env k with
  | some (.opt true x)=>some x
  | o=>o
theorem A3n {env:Env} {k:Nat} {v:V} (h:env k=some v) (hv:v.isOpt=false):deopt env k=some v:=by
  unfold deopt;rw [h];cases v<;>simp_all [V.isOpt]
theorem A84 {env:Env} {k:Nat} {v:V} (h:env k=some (.opt true v)):deopt env k=some v:=by
  unfold deopt;rw [h]

theorem OptL.needs {env:Env}:∀ {l l':List (Nat×V)},OptL true l l'→(∀ p∈l',env p.1=some p.2)→∀ p∈l,deopt env p.1=some p.2
  | _,_,.nil,_,_,h=>by cases h
  | _,_,.keep hv h,hn,p,hp=>by
    rcases List.mem_cons.1 hp with hp | hp
    · subst hp;exact A3n (hn _ (List.mem_cons_self ..)) hv
    · exact h.needs (fun q hq=>hn q (List.mem_cons_of_mem _ hq)) p hp
  | _,_,.opt h,hn,p,hp=>by
    rcases List.mem_cons.1 hp with hp | hp
    · subst hp;exact A84 (hn _ (List.mem_cons_self ..))
    · exact h.needs (fun q hq=>hn q (List.mem_cons_of_mem _ hq)) p hp

theorem RepV.notTop {ob:Obs} {σ:Nat→Option Nat} {Z:Nat→Prop} {w:World} {v:Value} {x:V} (h:RepV ob σ Z w v x):x.isTop=false:=by
  cases x with
  | tup xs=>simp [RepV,V.isAgg,V.rep] at h
  | opt g y=>simp [RepV,V.isAgg,V.rep] at h
  | _=>rfl
theorem Sim.deopt {env:Env} {ob:Obs} {a:Act} {w:World} {σ:Nat→Option Nat} {Z:Nat→Prop} (s:Sim B env ob a w σ Z):Sim B (deopt env) ob a w σ Z:=by
  refine { s with env:=?_ };intro k x hk;unfold Vc.deopt at hk;cases he:env k with
  | none=>rw [he] at hk;cases hk
  | some y =>
    obtain⟨v,h1,h2⟩:=s.env k y he;rw [he] at hk
    by_cases hy:∃ z,y = .opt true z
    · obtain⟨z,rfl⟩:=hy;simp only [Option.some.injEq] at hk;subst hk;exact⟨v,h1,RepT.of (h2.1 rfl) (h2.1 rfl).notTop⟩
    · have:y=x:=by
        cases y with
        | opt g z=>cases g with
          | true=>exact absurd ⟨z,rfl⟩ hy
          | false=>simpa using hk
        | _=>simpa using hk
      subst this;exact⟨v,h1,h2⟩

inductive GuardV (want:Bool):V→Bool→Prop
  | plain (b:Bool):GuardV want (.d (.bool b)) (b==want)
  | opt (g b:Bool):GuardV want (.opt g (.d (.bool b))) (g&&(b==want))

theorem OpJ.pickOr {b z g:Bool} (hg:g=(b==false)) (hN:d<B.N) (hc:Opd c (.d (.bool b)) nt) (hy:Opd y (.opt g (.d (.bool z))) nt') :
    OpJ P B ops ⟨some d,.pick c (.const (.bool true)) y,ty,pos,af,none⟩ { nt:=nt++nt',wt:=[(d,.d (.bool (b || z)))] } :=
  OpJ.pure rfl rfl hN fun env ob a w σ Z s h=>by
    obtain⟨h1,h2⟩:=A4 h;have e1:=F1 (hc B env ob a w σ Z s h1);have e2:=hy B env ob a w σ Z s h2;subst hg;cases b with
    | true =>
      have e0:a.eval (.const (.bool true)) = .bool true:=rfl;exact⟨.bool true,by simp [execOp,e1,e0,asBool],D8 _⟩
    | false =>
      have:a.eval y = .bool z:=by simpa [V.rep,D.rep] using And.left (e2.1 rfl)
      exact⟨.bool z,by simp [execOp,e1,asBool,this],by simpa using D8 z⟩
theorem OpJ.pickAnd {b z g:Bool} (hg:g=(b==true)) (hN:d<B.N) (hc:Opd c (.d (.bool b)) nt) (hy:Opd y (.opt g (.d (.bool z))) nt') :
    OpJ P B ops ⟨some d,.pick c y (.const (.bool false)),ty,pos,af,none⟩ { nt:=nt++nt',wt:=[(d,.d (.bool (b&&z)))] } :=
  OpJ.pure rfl rfl hN fun env ob a w σ Z s h=>by
    obtain⟨h1,h2⟩:=A4 h;have e1:=F1 (hc B env ob a w σ Z s h1);have e2:=hy B env ob a w σ Z s h2;subst hg;cases b with
    | false =>
      have e0:a.eval (.const (.bool false)) = .bool false:=rfl;exact⟨.bool false,by simp [execOp,e1,e0,asBool],D8 _⟩
    | true =>
      have:a.eval y = .bool z:=by simpa [V.rep,D.rep] using And.left (e2.1 rfl)
      exact⟨.bool z,by simp [execOp,e1,asBool,this],by simpa using D8 z⟩
end

-- equality of values without memory

mutual
def D.beq:D→D→Bool
  | .bool a,.bool b=>a==b
  | .int _ a,.int _ b=>a==b
  | .str a,.str b=>a==b
  | .st xs,.st ys=>D.beqL xs ys
  | .arr _ _ xs,.arr _ _ ys=>D.beqL xs ys
  | _,_=>false
def D.beqL:List D→List D→Bool
  | [],[]=>true
  | x :: xs,y :: ys=>D.beq x y&&D.beqL xs ys
  | _,_=>false
end

-- joins

section
variable {Q:Exit→EL→OL→Prop} {E E':EL} {O O':OL}

def Into (B:Base) (Q:Exit→EL→OL→Prop) (E':EL) (O':OL):Prop:=∀ (E:EL) (O:OL),Mat B E O E' O'→Q .normal E O
def jn {M T:Type} (rest:M→Option T) (body:(M→Option T)→Option T):Option T:=body rest
end

-- words for the plain side

def idx {α:Type} (xs:List α) (i:Int):Option α:=if 0≤i then xs[i.toNat]? else none
theorem I0 {α:Type} {xs:List α} {i:Int} {x:α} (h:idx xs i=some x):0≤i∧xs[i.toNat]? = some x:=by
  unfold idx at h;split at h
  · rename_i h0;exact⟨h0,h⟩
  · cases h
theorem B2b {α β:Type} {xs:List α} {n:Nat} {x:α} (f:α→β) (h:xs[n]? = some x):(xs.map f)[n]? = some (f x):=by rw [List.getElem?_map,h];rfl
theorem A59 {α:Type} {xs:List α} {i:Int} {x:α} (h:idx xs i=some x):i.toNat<xs.length:=(List.getElem?_eq_some_iff.1 (I0 h).2).1

def chk {α:Type} (p:Bool) (k:Option α):Option α:=if p then k else none
theorem G6 {α:Type} {p:Bool} {k:Option α} {y:α} (h:chk p k=some y):p=true∧k=some y:=by
  unfold chk at h;cases p<;>simp_all
theorem A6k {α:Type} {b:Bool} {x y r:α} (hb:b=true) (h:(if b=true then x else y)=r):x=r:=by rw [if_pos hb] at h;exact h
theorem A6l {α:Type} {b:Bool} {x y r:α} (hb:b=false) (h:(if b=true then x else y)=r):y=r:=by rw [if_neg (by rw [hb];simp)] at h;exact h
theorem bindS {α β:Type} {o:Option α} {f:α→Option β} {y:β} (h:o.bind f=some y):∃ x,o=some x∧f x=some y:=Option.bind_eq_some_iff.1 h

def iter {S X:Type} (tb:S→Option (X⊕S)):Nat→S→Option X
  | 0,_=>none
  | n+1,s=>(tb s).bind fun
    | .inr s'=>iter tb n s'
    | .inl x=>some x
open Classical in
noncomputable def loop {S X:Type} (tb:S→Option (X⊕S)) (s:S):Option X:=if h:∃ n x,iter tb n s=some x then some (Classical.choose (Classical.choose_spec h)) else none
theorem A1t {S X:Type} {tb:S→Option (X⊕S)} {s:S} {x:X} (h:loop tb s=some x):∃ n,iter tb n s=some x:=by
  unfold loop at h;split at h
  · rename_i hx;refine⟨Classical.choose hx,?_⟩;rw [Classical.choose_spec (Classical.choose_spec hx),h]
  · cases h
theorem A1u {S X:Type} {tb:S→Option (X⊕S)}:∀ (n:Nat) (s:S) (x:X),iter tb n s=some x→iter tb (n+1) s=some x
  | 0,_,_,h=>by cases h
  | n+1,s,x,h=>by
    rw [iter] at h ⊢;obtain⟨y,h1,h2⟩:=bindS h;rw [h1];cases y with
    | inl z=>exact h2
    | inr s'=>exact A1u n s' x h2
theorem A0c {S X:Type} {tb:S→Option (X⊕S)} {n m:Nat} {s:S} {x:X} (hm:n≤m) (h:iter tb n s=some x):iter tb m s=some x:=by
  induction m with
  | zero=>rw [Nat.le_zero.1 hm] at h;exact h
  | succ m ih =>
    rcases Nat.lt_or_ge m n with h1 | h1
    · rwa [show m+1=n from by omega]
    · exact A1u m s x (ih h1)
theorem A2s {S X:Type} {tb:S→Option (X⊕S)} {n:Nat} {s:S} {x:X} (h:iter tb n s=some x):loop tb s=some x:=by
  unfold loop;have hx:∃ n x,iter tb n s=some x:=⟨n,x,h⟩;rw [dif_pos hx];have h2:=Classical.choose_spec (Classical.choose_spec hx);have e1:=A0c (Nat.le_max_left n (Classical.choose hx)) h;have e2:=A0c (Nat.le_max_right n (Classical.choose hx)) h2;rw [e1] at e2;exact congrArg some (Option.some.inj e2).symm
theorem A3o {S X:Type} {tb:S→Option (X⊕S)} {s:S} {x:X} (h:tb s=some (.inl x)):loop tb s=some x:=A2s (n:=1) (by simp [iter,h])
theorem A85 {S X:Type} {tb:S→Option (X⊕S)} {s s':S} {x:X} (h:tb s=some (.inr s')) (h':loop tb s'=some x):loop tb s=some x:=by
  obtain⟨n,hn⟩:=A1t h';exact A2s (n:=n+1) (by simp [iter,h,hn])
theorem B2c {S X:Type} (tb:S→Option (X⊕S)) (n:Nat) (s:S):iter tb n s=(Nat.rec (motive:=fun _=>S→Option X) (fun _=>none) (fun _ ih s=>(tb s).bind fun | .inr s'=>ih s' | .inl x=>some x) n:S→Option X) s:=by
  induction n generalizing s with
  | zero=>rfl
  | succ n ih =>
    rw [iter];congr 1;funext y;cases y with
    | inl x=>rfl
    | inr s'=>exact ih s'

section
variable {Q:Exit→EL→OL→Prop} {E:EL} {O:OL}
end

def eB (b:Bool):D:=.bool b
def eI (k:IntKind) (n:Int):D:=.int k n
def w64 (n:Int):Int:=IntKind.i64.wrap n
def LIM:Nat:=4294967296

end Go.Vc
