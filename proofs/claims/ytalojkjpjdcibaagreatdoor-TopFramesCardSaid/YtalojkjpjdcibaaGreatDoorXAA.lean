/- Part of the proof that 'TopFrames' holds of every input: no condition. -/
import Derived.WalkKit
import Derived.Orders
import Derived.Maps.AppendAt
namespace Go.Vc
open Go
inductive D where
 | bool (b:Bool)
 | int (k:IntKind) (n:Int)
 | str (s:List UInt8)
 | st (fs:List D)
 | arr (n sz:Nat) (es:List D)
 | list (sz:Nat) (es:List D)
 | imap (es:List (Int×Int))
 deriving Inhabited
mutual
def D.sz:D->Nat
 | .st fs=>D.szL fs
 | .arr n sz _=>n*sz
 | _=>1
def D.szL:List D->Nat
 | []=>0
 | f :: fs=>D.sz f+D.szL fs
end
def D.isAgg:D->Bool
 | .st _ | .arr .. => true
 | _=>false
def G6 (w:World) (b o:Nat) (cs:List Value):Prop:=∀ j v,cs[j]? = some v->w.cell? ⟨b,o+j,none⟩=some v
theorem G6.of_block {w w':World} {b o:Nat} {cs:List Value} (h:G6 w b o cs) (he:w'.heap[b]? = w.heap[b]?):G6 w' b o cs :=
 λj v hj=>(World.cell?_of_block (w:=w) (w':=w') (a:=⟨b,o+j,none⟩) he).trans (h j v hj)
mutual
/-- the cells cs, in world w, read as the datum; every block that is looked into lies in Z -/
def D.rep (Z:Nat->Prop) (w:World):D->List Value->Prop
 | .bool b,cs=>cs=[.bool b]
 | .int k n,cs=>cs=[.int k n]
 | .str s,cs=>cs=[.string ⟨s.toArray⟩]
 | .st fs,cs=>D.repL Z w fs cs
 | .arr n sz es,cs=>es.length=n∧(∀ e∈es,e.sz=sz)∧D.repL Z w es cs
 | .list sz es,cs=>∃ a c,cs=[.slice a es.length c]∧es.length<=c∧c<=9223372036854775807 ∧
  (es=[]∨∃ b o,a=some ⟨b,o,none⟩∧Z b∧(∀ e∈es,e.sz=sz)∧D.repE Z w sz es b o)
 | .imap es,cs=>∃ b,cs=[.map (some b)]∧Z b∧∃ (ents:Array MapEntry) (clock:Nat),w.heap[b]? = some (.map ents clock)∧(ents.toList.map λe=>(e.key,e.val)).Perm (es.map λp=>(Value.int .i64 p.1,Value.int .i64 p.2))∧(es.map (·.1)).Nodup
def D.repL (Z:Nat->Prop) (w:World):List D->List Value->Prop
 | [],cs=>cs=[]
 | f :: fs,cs=>∃ c1 c2,cs=c1++c2∧D.rep Z w f c1∧D.repL Z w fs c2
def D.repE (Z:Nat->Prop) (w:World) (sz:Nat):List D->Nat->Nat->Prop
 | [],_,_=>True
 | e :: es,b,o=>(∃ cs,G6 w b o cs∧D.rep Z w e cs)∧D.repE Z w sz es b (o+sz)
end
structure Ext (Z Z':Nat->Prop) (w w':World):Prop where
 sub:∀ b,Z b->Z' b
 same:∀ b,Z b->w'.heap[b]? = w.heap[b]?
theorem Ext.refl (Z:Nat->Prop) (w:World):Ext Z Z w w:=⟨λ_ h=>h,λ_ _=>rfl⟩
theorem Ext.trans {Z Z' Z'':Nat->Prop} {w w' w'':World} (h:Ext Z Z' w w') (k:Ext Z' Z'' w' w''):Ext Z Z'' w w'' :=
 ⟨λb hb=>k.sub b (h.sub b hb),λb hb=>(k.same b (h.sub b hb)).trans (h.same b hb)⟩
mutual
theorem D.rep_ext {Z Z':Nat->Prop} {w w':World} (hx:Ext Z Z' w w'):∀ (x:D) (cs:List Value),D.rep Z w x cs->D.rep Z' w' x cs
 | .bool _,_,h=>h
 | .int _ _,_,h=>h
 | .str _,_,h=>h
 | .st fs,cs,h=>D.repL_ext hx fs cs h
 | .arr _ _ es,cs,h=>⟨h.1,h.2.1,D.repL_ext hx es cs h.2.2⟩
 | .list sz es,cs,h=>by
  obtain⟨a,c,h1,h2,h3,h4⟩:=h;refine⟨a,c,h1,h2,h3,?_⟩;rcases h4 with h4 | ⟨b,o,ha,hz,he,hr⟩
  ·exact .inl h4
  ·exact .inr ⟨b,o,ha,hx.sub b hz,he,D.repE_ext hx sz es b o hz hr⟩
 | .imap es,cs,h=>by
  obtain⟨b,h1,h2,ents,clock,h3,h4⟩:=h;exact⟨b,h1,hx.sub b h2,ents,clock,(hx.same b h2).trans h3,h4⟩
theorem D.repL_ext {Z Z':Nat->Prop} {w w':World} (hx:Ext Z Z' w w'):∀ (fs:List D) (cs:List Value),D.repL Z w fs cs->D.repL Z' w' fs cs
 | [],_,h=>h
 | f :: fs,cs,h=>by
  obtain⟨c1,c2,h1,h2,h3⟩:=h;exact⟨c1,c2,h1,D.rep_ext hx f c1 h2,D.repL_ext hx fs c2 h3⟩
theorem D.repE_ext {Z Z':Nat->Prop} {w w':World} (hx:Ext Z Z' w w') (sz:Nat):∀ (es:List D) (b o:Nat),Z b->D.repE Z w sz es b o->D.repE Z' w' sz es b o
 | [],_,_,_,h=>h
 | e :: es,b,o,hz,h=>by
  obtain⟨⟨cs,h1,h2⟩,h3⟩:=h;exact⟨⟨cs,h1.of_block (hx.same b hz),D.rep_ext hx e cs h2⟩,D.repE_ext hx sz es b (o+sz) hz h3⟩
end
mutual
theorem D.rep_len {Z:Nat->Prop} {w:World}:∀ (x:D) (cs:List Value),D.rep Z w x cs->cs.length=x.sz
 | .bool _,_,h=>by cases h;rfl
 | .int _ _,_,h=>by cases h;rfl
 | .str _,_,h=>by cases h;rfl
 | .st fs,cs,h=>D.repL_len fs cs h
 | .arr n sz es,cs,h=>by
  have:=D.repL_len es cs h.2.2;rw [this];show D.szL es=n*sz;rw [<- h.1];exact D.szL_all es h.2.1
 | .list _ _,_,h=>by obtain⟨a,c,h1,_⟩:=h;cases h1;rfl
 | .imap _,_,h=>by obtain⟨b,h1,_⟩:=h;cases h1;rfl
theorem D.repL_len {Z:Nat->Prop} {w:World}:∀ (fs:List D) (cs:List Value),D.repL Z w fs cs->cs.length=D.szL fs
 | [],_,h=>by cases h;rfl
 | f :: fs,cs,h=>by
  obtain⟨c1,c2,h1,h2,h3⟩:=h;rw [h1,List.length_append,D.rep_len f c1 h2,D.repL_len fs c2 h3];rfl
theorem D.szL_all {sz:Nat}:∀ (es:List D),(∀ e∈es,e.sz=sz)->D.szL es=es.length*sz
 | [],_=>by simp [D.szL]
 | e :: es,h=>by
  have h1:=h e (List.mem_cons_self ..);have h2:=D.szL_all es (λx hx=>h x (List.mem_cons_of_mem _ hx));simp only [D.szL,h1,h2,List.length_cons,Nat.succ_mul];omega
end
mutual
theorem D.rep_one {Z:Nat->Prop} {w:World}:∀ (x:D) (cs:List Value),D.rep Z w x cs->∀ v∈cs,v.oneCell'=true
 | .bool _,_,h=>by cases h;simp [Value.oneCell']
 | .int _ _,_,h=>by cases h;simp [Value.oneCell']
 | .str _,_,h=>by cases h;simp [Value.oneCell']
 | .st fs,cs,h=>D.repL_one fs cs h
 | .arr _ _ es,cs,h=>D.repL_one es cs h.2.2
 | .list _ _,_,h=>by obtain⟨a,c,h1,_⟩:=h;cases h1;simp [Value.oneCell']
 | .imap _,_,h=>by obtain⟨b,h1,_⟩:=h;cases h1;simp [Value.oneCell']
theorem D.repL_one {Z:Nat->Prop} {w:World}:∀ (fs:List D) (cs:List Value),D.repL Z w fs cs->∀ v∈cs,v.oneCell'=true
 | [],_,h=>by cases h;simp
 | f :: fs,cs,h=>by
  obtain⟨c1,c2,h1,h2,h3⟩:=h;subst h1;intro v hv;rcases List.mem_append.1 hv with hv | hv
  ·exact D.rep_one f c1 h2 v hv
  ·exact D.repL_one fs c2 h3 v hv
end
theorem D.repE_get {Z:Nat->Prop} {w:World} {sz:Nat}:∀ (es:List D) (b o i:Nat) (e:D),D.repE Z w sz es b o->es[i]? = some e ->
  ∃ cs,G6 w b (o+i*sz) cs∧D.rep Z w e cs
 | [],_,_,_,_,_,h=>by simp at h
 | x :: es,b,o,0,e,h,hi=>by
  obtain⟨⟨cs,h1,h2⟩,_⟩:=h;simp at hi;subst hi;exact⟨cs,by simpa using h1,h2⟩
 | x :: es,b,o,i+1,e,h,hi=>by
  have:=D.repE_get es b (o+sz) i e h.2 (by simpa using hi);obtain⟨cs,h1,h2⟩:=this;exact⟨cs,by rw [Nat.succ_mul];rw [show o+(i*sz+sz)=o+sz+i*sz from by omega];exact h1,h2⟩
theorem D.repE_drop {Z:Nat->Prop} {w:World} {sz:Nat}:∀ (es:List D) (b o i:Nat),D.repE Z w sz es b o->D.repE Z w sz (es.drop i) b (o+i*sz)
 | [],_,_,_,_=>by simp [D.repE]
 | x :: es,b,o,0,h=>by simpa using h
 | x :: es,b,o,i+1,h=>by
  have:=D.repE_drop es b (o+sz) i h.2;rw [List.drop_succ_cons,Nat.succ_mul,show o+(i*sz+sz)=o+sz+i*sz from by omega];exact this
theorem D.repE_take {Z:Nat->Prop} {w:World} {sz:Nat}:∀ (es:List D) (b o i:Nat),D.repE Z w sz es b o->D.repE Z w sz (es.take i) b o
 | [],_,_,_,_=>by simp [D.repE]
 | x :: es,b,o,0,h=>by simp [D.repE]
 | x :: es,b,o,i+1,h=>by
  rw [List.take_succ_cons];exact⟨h.1,D.repE_take es b (o+sz) i h.2⟩
theorem D.repE_of_repL {Z:Nat->Prop} {w:World} {sz:Nat}:∀ (es:List D) (b o:Nat) (cs:List Value),D.repL Z w es cs->(∀ e∈es,e.sz=sz)->G6 w b o cs->D.repE Z w sz es b o
 | [],_,_,_,_,_,_=>trivial
 | e :: es,b,o,cs,h,hs,hc=>by
  obtain⟨c1,c2,h1,h2,h3⟩:=h;subst h1;have hl:=D.rep_len e c1 h2;rw [hs e (List.mem_cons_self ..)] at hl;refine⟨⟨c1,λj v hj=>hc j v (List.getElem?_append_left (by have:=(List.getElem?_eq_some_iff.1 hj).1;exact this) ▸ hj),h2⟩,?_⟩;refine D.repE_of_repL es b (o+sz) c2 h3 (λx hx=>hs x (List.mem_cons_of_mem _ hx)) (λj v hj => ?_);have:=hc (sz+j) v (by rw [List.getElem?_append_right (by omega),hl];simpa using hj);rw [<- Nat.add_assoc] at this;exact this
theorem D.repL_append {Z:Nat->Prop} {w:World}:∀ (xs ys:List D) (c1 c2:List Value),D.repL Z w xs c1->D.repL Z w ys c2->D.repL Z w (xs++ys) (c1++c2)
 | [],_,_,_,h,k=>by cases h;simpa using k
 | x :: xs,ys,_,c2,h,k=>by
  obtain⟨a,b,h1,h2,h3⟩:=h;subst h1;exact⟨a,b++c2,by simp,h2,D.repL_append xs ys b c2 h3 k⟩
theorem D.repL_of_repE {Z:Nat->Prop} {w:World} {sz:Nat}:∀ (es:List D) (b o:Nat),D.repE Z w sz es b o->(∀ e∈es,e.sz=sz)->∃ cs,D.repL Z w es cs∧G6 w b o cs
 | [],_,_,_,_=>⟨[],rfl,λj v h=>by simp at h⟩
 | e :: es,b,o,h,hs=>by
  obtain⟨⟨c1,h1,h2⟩,h3⟩:=h;obtain⟨c2,h4,h5⟩:=D.repL_of_repE es b (o+sz) h3 (λx hx=>hs x (List.mem_cons_of_mem _ hx));have hl:=D.rep_len e c1 h2;rw [hs e (List.mem_cons_self ..)] at hl;refine⟨c1++c2,⟨c1,c2,rfl,h2,h4⟩,λj v hj => ?_⟩;rcases Nat.lt_or_ge j c1.length with hlt | hge
  ·exact h1 j v (by rwa [List.getElem?_append_left hlt] at hj)
  ·rw [List.getElem?_append_right hge] at hj;have:=h5 (j-c1.length) v hj;rwa [show o+sz+(j-c1.length)=o+j from by omega] at this
end Go.Vc
namespace Go.Vc
open Go
inductive V where
 | junk
 | d (x:D)
 | nils
 | ptr (n off:Nat) (path:List Nat)
 | dptr (x:D)
 | sref (n sz off len:Nat)
 | func (f:FuncId) (caps:List V)
 | st (fs:List V)
 | tup (vs:List V)
 | opt (g:Bool) (x:V)
 | mref (n:Nat)
 | full (sz:Nat) (es:List D)
 | cst (v:Value)
 | sat (p:Value->Prop)
 deriving Inhabited
structure Blk where
 holds:(Nat->Prop)->World->Nat->Prop
 move:∀ {Z Z':Nat->Prop} {w w':World} {b:Nat},Ext Z Z' w w'->w'.heap[b]? = w.heap[b]? -> holds Z w b->holds Z' w' b
 lt:∀ {Z:Nat->Prop} {w:World} {b:Nat},holds Z w b->b<w.heap.size
instance:Inhabited Blk:=⟨⟨λ_ _ _=>False,λ_ _ h=>h,λh=>h.elim⟩⟩
structure Ou where
 holds:(Nat->Prop)->World->Prop
 move:∀ {Z Z':Nat->Prop} {w w':World},Ext Z Z' w w'->holds Z w->holds Z' w'
instance:Inhabited Ou:=⟨⟨λ_ _=>False,λ_ h=>h⟩⟩
structure Reg where
 holds:(Nat->Prop)->World->(Nat->Prop)->Option Nat->Prop
 move:∀ {Z Z' Y:Nat->Prop} {w w':World} {m:Option Nat},Ext Z Z' w w'->(∀ b,Y b->w'.heap[b]? = w.heap[b]?)->(∀ b,m=some b->w'.heap[b]? = w.heap[b]?)->holds Z w Y m->holds Z' w' Y m
instance:Inhabited Reg:=⟨⟨λ_ _ _ _=>False,λ_ _ _ h=>h⟩⟩
inductive Ob where
 | box (t:TypeId) (x:V)
 | row (e:TypeId) (sz:Nat) (es:List D)
 | blk (s:Blk)
 | know (k:Ou)
 | reg (r:Reg)
 | vrow (e:TypeId) (sz:Nat) (fs:List V)
 deriving Inhabited
abbrev Obs:=Nat->Option (Option Ob)
def live (ob:Obs) (n:Nat):Prop:=∃ o,ob n=some (some o)
def used (ob:Obs) (n:Nat):Prop:=ob n≠none
theorem live.used {ob:Obs} {n:Nat} (h:live ob n):used ob n:=by obtain⟨o,h⟩:=h;simp [Vc.used,h]
def V.isTop:V->Bool
 | .tup _=>true
 | .opt .. => true
 | _=>false
def V.isAgg:V->Bool
 | .st _=>true
 | .d x=>x.isAgg
 | _=>false
mutual
def V.sz:V->Nat
 | .st fs=>V.szL fs
 | .d x=>x.sz
 | _=>1
def V.szL:List V->Nat
 | []=>0
 | f :: fs=>V.sz f+V.szL fs
end
mutual
def V.rep (ob:Obs) (σ:Nat->Option Nat) (Z:Nat->Prop) (w:World):V->List Value->Prop
 | .junk,_=>True
 | .d x,cs=>D.rep Z w x cs
 | .nils,cs=>cs=[.slice none 0 0]
 | .ptr n off _,cs=>used ob n∧(live ob n->∃ b,σ n=some b∧cs=[.pointer (some ⟨b,off,none⟩)])
 | .dptr x,cs=>∃ b o xs,cs=[.pointer (some ⟨b,o,none⟩)]∧Z b∧G6 w b o xs∧D.rep Z w x xs
 | .sref n sz off len,cs=>used ob n∧(live ob n->∃ a c,cs=[.slice a len c]∧len<=c∧c<=9223372036854775807 ∧
  ((σ n=none∧a=none∧off=0∧c=0) ∨
   ∃ b e,σ n=some b∧(c=0∨a=some ⟨b,off*sz,none⟩)∧w.shape? b=some (e,(off+c)*sz)∧(off=0->a=some ⟨b,0,none⟩)))
 | .func f caps,cs=>∃ cvs,cs=[.func (.func f) #[] cvs.toArray]∧V.repL ob σ Z w caps cvs
 | .st fs,cs=>V.repS ob σ Z w fs cs
 | .mref n,cs=>used ob n∧(live ob n->∃ b,σ n=some b∧cs=[.map (some b)])
 | .full sz es,cs=>(∃ a,cs=[.slice a es.length es.length])∧D.rep Z w (.list sz es) cs
 | .cst v,cs=>cs=[v]∧v.oneCell'=true
 | .sat p,cs=>∃ v,cs=[v]∧p v∧v.oneCell'=true
 | .tup _,_=>False
 | .opt ..,_=>False
/-- each value one cell -/
def V.repL (ob:Obs) (σ:Nat->Option Nat) (Z:Nat->Prop) (w:World):List V->List Value->Prop
 | [],cs=>cs=[]
 | f :: fs,cs=>∃ c rest,cs=c :: rest∧c.oneCell'=true∧V.rep ob σ Z w f [c]∧V.repL ob σ Z w fs rest
def V.repS (ob:Obs) (σ:Nat->Option Nat) (Z:Nat->Prop) (w:World):List V->List Value->Prop
 | [],cs=>cs=[]
 | f :: fs,cs=>∃ c1 c2,cs=c1++c2∧c1.length=f.sz∧(∀ v∈c1,v.oneCell'=true)∧V.rep ob σ Z w f c1∧V.repS ob σ Z w fs c2
end
structure K4 (ob ob':Obs) (σ σ':Nat->Option Nat) (Z Z':Nat->Prop) (w w':World):Prop where
 ext:Ext Z Z' w w'
 us:∀ n,used ob n->used ob' n
 lv:∀ n,used ob n->live ob' n->live ob n∧σ' n=σ n
 sh:∀ n b,used ob n->live ob' n->σ n=some b->w'.shape? b=w.shape? b
theorem K4.refl (ob:Obs) (σ:Nat->Option Nat) (Z:Nat->Prop) (w:World):K4 ob ob σ σ Z Z w w :=
 ⟨Ext.refl _ _,λ_ h=>h,λ_ _ h=>⟨h,rfl⟩,λ_ _ _ _ _=>rfl⟩
mutual
theorem V.rep_move {ob ob':Obs} {σ σ':Nat->Option Nat} {Z Z':Nat->Prop} {w w':World} (m:K4 ob ob' σ σ' Z Z' w w') :
  ∀ (x:V) (cs:List Value),V.rep ob σ Z w x cs->V.rep ob' σ' Z' w' x cs
 | .junk,_,_=>trivial
 | .d x,cs,h=>D.rep_ext m.ext x cs h
 | .nils,_,h=>h
 | .ptr n off p,cs,h=>⟨m.us n h.1,λhl=>by
   obtain⟨l,e⟩:=m.lv n h.1 hl;obtain⟨b,hb,hc⟩:=h.2 l;exact⟨b,e.trans hb,hc⟩⟩
 | .mref n,cs,h=>⟨m.us n h.1,λhl=>by
   obtain⟨l,e⟩:=m.lv n h.1 hl;obtain⟨b,hb,hc⟩:=h.2 l;exact⟨b,e.trans hb,hc⟩⟩
 | .full sz es,cs,h=>⟨h.1,D.rep_ext m.ext (.list sz es) cs h.2⟩
 | .cst _,_,h=>h
 | .sat _,_,h=>h
 | .dptr x,cs,h=>by
  obtain⟨b,o,xs,h1,h2,h3,h4⟩:=h;exact⟨b,o,xs,h1,m.ext.sub b h2,h3.of_block (m.ext.same b h2),D.rep_ext m.ext x xs h4⟩
 | .sref n sz off len,cs,h=>⟨m.us n h.1,λhl=>by
   obtain⟨l,e⟩:=m.lv n h.1 hl;obtain⟨a,c,h1,h2,h3,h4⟩:=h.2 l;refine⟨a,c,h1,h2,h3,?_⟩;rcases h4 with ⟨h4,h5⟩ | ⟨b,t,hb,h4,h5,h6⟩
   ·exact .inl ⟨e.trans h4,h5⟩
   ·exact .inr ⟨b,t,e.trans hb,h4,(m.sh n b h.1 hl hb).trans h5,h6⟩⟩
 | .func f caps,cs,h=>by
  obtain⟨cvs,h1,h2⟩:=h;exact⟨cvs,h1,V.repL_move m caps cvs h2⟩
 | .st fs,cs,h=>V.repS_move m fs cs h
 | .tup _,_,h=>h.elim
 | .opt ..,_,h=>h.elim
theorem V.repL_move {ob ob':Obs} {σ σ':Nat->Option Nat} {Z Z':Nat->Prop} {w w':World} (m:K4 ob ob' σ σ' Z Z' w w') :
  ∀ (xs:List V) (cs:List Value),V.repL ob σ Z w xs cs->V.repL ob' σ' Z' w' xs cs
 | [],_,h=>h
 | x :: xs,cs,h=>by
  obtain⟨c,r,h1,h0,h2,h3⟩:=h;exact⟨c,r,h1,h0,V.rep_move m x [c] h2,V.repL_move m xs r h3⟩
theorem V.repS_move {ob ob':Obs} {σ σ':Nat->Option Nat} {Z Z':Nat->Prop} {w w':World} (m:K4 ob ob' σ σ' Z Z' w w') :
  ∀ (xs:List V) (cs:List Value),V.repS ob σ Z w xs cs->V.repS ob' σ' Z' w' xs cs
 | [],_,h=>h
 | x :: xs,cs,h=>by
  obtain⟨c1,c2,h1,h2,h3,h4,h5⟩:=h;exact⟨c1,c2,h1,h2,h3,V.rep_move m x c1 h4,V.repS_move m xs c2 h5⟩
end
def F3 (ob:Obs) (σ:Nat->Option Nat) (Z:Nat->Prop) (w:World) (v:Value) (x:V):Prop :=
 if x.isAgg then ∃ cs:List Value,v = .agg cs.toArray∧V.rep ob σ Z w x cs else V.rep ob σ Z w x [v]∧(x = .junk∨v.oneCell'=true)
def J8 (ob:Obs) (σ:Nat->Option Nat) (Z:Nat->Prop) (w:World):List Value->List V->Prop
 | [],[]=>True
 | v :: vs,x :: xs=>F3 ob σ Z w v x∧J8 ob σ Z w vs xs
 | _,_=>False
def D0 (ob:Obs) (σ:Nat->Option Nat) (Z:Nat->Prop) (w:World) (v:Value):V->Prop
 | .tup xs=>∃ vs:List Value,v = .tuple vs.toArray∧J8 ob σ Z w vs xs
 | .opt g x=>(g=true->F3 ob σ Z w v x)∧(g=false->v=undef)
 | x=>F3 ob σ Z w v x
section
variable {ob ob':Obs} {σ σ':Nat->Option Nat} {Z Z':Nat->Prop} {w w':World}
theorem F3.move (m:K4 ob ob' σ σ' Z Z' w w') {v:Value} {x:V} (h:F3 ob σ Z w v x):F3 ob' σ' Z' w' v x:=by
 unfold F3 at *
 by_cases hx:x.isAgg=true
 ·rw [if_pos hx] at h ⊢;obtain⟨cs,h1,h2⟩:=h;exact⟨cs,h1,V.rep_move m x cs h2⟩
 ·rw [if_neg hx] at h ⊢;exact⟨V.rep_move m x [v] h.1,h.2⟩
theorem J8.move (m:K4 ob ob' σ σ' Z Z' w w'):∀ {vs:List Value} {xs:List V},J8 ob σ Z w vs xs->J8 ob' σ' Z' w' vs xs
 | [],[],_=>trivial
 | _ :: _,_ :: _,h=>⟨h.1.move m,J8.move m h.2⟩
 | [],_ :: _,h=>h.elim
 | _ :: _,[],h=>h.elim
theorem D0.move (m:K4 ob ob' σ σ' Z Z' w w') {v:Value} {x:V} (h:D0 ob σ Z w v x):D0 ob' σ' Z' w' v x:=by
 cases x with
 | tup xs=>obtain⟨vs,h1,h2⟩:=h;exact⟨vs,h1,h2.move m⟩
 | opt g x=>exact⟨λe=>F3.move m (h.1 e),h.2⟩
 | _=>exact F3.move m h
theorem D0.junk (v:Value):D0 ob σ Z w v .junk:=by simp [D0,F3,V.isAgg,V.rep]
theorem D0.of {v:Value} {x:V} (h:F3 ob σ Z w v x) (ht:x.isTop=false):D0 ob σ Z w v x:=by
 cases x with
 | tup xs=>simp [V.isTop] at ht
 | opt g x=>simp [V.isTop] at ht
 | _=>exact h
theorem D0.to {v:Value} {x:V} (h:D0 ob σ Z w v x) (ht:x.isTop=false):F3 ob σ Z w v x:=by
 cases x with
 | tup xs=>simp [V.isTop] at ht
 | opt g x=>simp [V.isTop] at ht
 | _=>exact h
end
def Ob.rep (ob:Obs) (σ:Nat->Option Nat) (Z:Nat->Prop) (w:World) (n:Nat):Ob->Prop
 | .box t x=>∃ b cs,σ n=some b∧w.heap[b]? = some (.cells cs t (0,0))∧(∀ v∈cs.toList,v.oneCell'=true)∧cs.size=x.sz∧V.rep ob σ Z w x cs.toList
 | .row e sz es=>0<sz∧(∀ x∈es,x.sz=sz)∧∃ v xs,w.ownsRow 0 e sz v es.length xs∧D.repL Z w es xs∧v.ownBlock=σ n∧(σ n=none->es=[])
 | .blk s=>∃ b,σ n=some b∧s.holds Z w b
 | .know k=>σ n=none∧k.holds Z w
 | .reg _=>∀ b,σ n=some b->b<w.heap.size
 | .vrow e sz fs=>0<sz∧(∀ x∈fs,x.sz=sz)∧∃ v xs,w.ownsRow 0 e sz v fs.length xs∧(∀ u∈xs,u.oneCell'=true)∧V.repS ob σ Z w fs xs∧v.ownBlock=σ n∧(σ n=none->fs=[])
def Nh (ob:Obs) (n:Nat):Prop:=∃ r,ob n=some (some (.reg r))
def Ag (lo:Nat) (own:Nat->Prop) (ob:Obs) (σ:Nat->Option Nat) (Z:Nat->Prop) (w:World):Prop :=
 ∃ Y:Nat->Nat->Prop,(∀ n r,ob n=some (some (.reg r))->r.holds Z w (Y n) (σ n)) ∧
  ∀ n b,Nh ob n->Y n b->¬ Z b∧b<w.heap.size∧(lo<=b∨own b)∧(∀ m,live ob m->σ m≠some b)∧∀ m,Nh ob m->Y m b->m=n
theorem Ag.empty {lo:Nat} {own:Nat->Prop} {ob:Obs} {σ:Nat->Option Nat} {Z:Nat->Prop} {w:World} (h:∀ n r,ob n≠some (some (.reg r))):Ag lo own ob σ Z w :=
 ⟨λ_ _=>False,λn r hn=>absurd hn (h n r),λ_ _ _ hy=>hy.elim⟩
theorem Ag.move {lo:Nat} {own:Nat->Prop} {ob ob':Obs} {σ σ':Nat->Option Nat} {Z Z':Nat->Prop} {w w':World} (F:Ag lo own ob σ Z w) (hx:Ext Z Z' w w') (hsz:w.heap.size<=w'.heap.size)
  (hreg:∀ n r,ob' n=some (some (.reg r))->ob n=some (some (.reg r))∧σ' n=σ n)
  (hmain:∀ n b,Nh ob' n->σ n=some b->w'.heap[b]? = w.heap[b]?)
  (hkeep:∀ b,¬ Z b->b<w.heap.size->(∀ m,live ob m->σ m≠some b)->w'.heap[b]? = w.heap[b]?)
  (hZ:∀ b,Z' b->Z b∨w.heap.size<=b∨∃ m,live ob m∧σ m=some b)
  (hlive:∀ m b,live ob' m->σ' m=some b->w.heap.size<=b∨∃ m',live ob m'∧σ m'=some b):Ag lo own ob' σ' Z' w':=by
 obtain⟨Y,h1,h2⟩:=F;have back:∀ n,Nh ob' n->Nh ob n:=λn ⟨r,hr⟩=>⟨r,(hreg n r hr).1⟩;refine⟨Y,λn r hn => ?_,λn b hn hy => ?_⟩
 ·obtain⟨g1,g2⟩:=hreg n r hn;rw [g2];refine r.move hx (λb hy => ?_) (λb hb=>hmain n b ⟨r,hn⟩ hb) (h1 n r g1);obtain⟨k1,k2,_,k4,_⟩:=h2 n b ⟨r,g1⟩ hy;exact hkeep b k1 k2 k4
 ·obtain⟨k1,k2,k3,k4,k5⟩:=h2 n b (back n hn) hy;refine⟨λhz => ?_,Nat.lt_of_lt_of_le k2 hsz,k3,λm hm hb => ?_,λm hm hmy=>k5 m (back m hm) hmy⟩
  ·rcases hZ b hz with h | h | ⟨m,hm,hb⟩
   ·exact k1 h
   ·omega
   ·exact k4 m hm hb
  ·rcases hlive m b hm hb with h | ⟨m',hm',hb'⟩
   ·omega
   ·exact k4 m' hm' hb'
structure D5 where
 w0:World
 own:Nat->Prop
 pin:Nat->Option (Option Nat)
 z0:Nat->Prop
 N:Nat
abbrev Env:=Nat->Option V
structure Sim (B:D5) (env:Env) (ob:Obs) (a:Act) (w:World) (σ:Nat->Option Nat) (Z:Nat->Prop):Prop where
 dfr:a.defers=[]
 len:a.tmps.size=B.N
 env:∀ k x,env k=some x->∃ v,a.tmps[k]? = some v∧D0 ob σ Z w v x
 obj:∀ n o,ob n=some (some o)->o.rep ob σ Z w n
 inj:∀ n m b,live ob n->live ob m->σ n=some b->σ m=some b->n=m
 blk:∀ n b,live ob n->σ n=some b->¬ Z b∧(B.w0.heap.size<=b∨B.own b)
 zlt:∀ b,Z b->b<w.heap.size
 pin:∀ n b,B.pin n=some b->live ob n->σ n=b
 shp:∀ n b,B.pin n=some (some b)->live ob n->w.shape? b=B.w0.shape? b
 os:w.os=B.w0.os
 tape:w.tape=B.w0.tape
 output:w.output=B.w0.output
 size:B.w0.heap.size<=w.heap.size
 zsub:∀ b,B.z0 b->Z b
 znew:∀ b,Z b->B.z0 b∨B.w0.heap.size<=b∨B.own b
 block:∀ k,k<B.w0.heap.size->¬ B.own k->w.heap[k]? = B.w0.heap[k]?
 foot:Ag B.w0.heap.size B.own ob σ Z w
def upd (env:Env) (k:Nat) (x:V):Env:=λj=>if j=k then some x else env j
section
variable {B:D5} {env:Env} {ob:Obs} {a:Act} {w:World} {σ:Nat->Option Nat} {Z:Nat->Prop}
theorem Ob.lt {n:Nat} {o:Ob} (h:o.rep ob σ Z w n) {b:Nat} (hb:σ n=some b):b<w.heap.size:=by
 cases o with
 | box t x =>
  obtain⟨b',cs,h1,h2,_⟩:=h;have:b'=b:=Option.some.inj (h1.symm.trans hb);subst this;exact(Array.getElem?_eq_some_iff.1 h2).1
 | row e sz es =>
  obtain⟨_,_,v,xs,h1,_,h3,_⟩:=h;exact(h1.lt b (h3.trans hb)).2
 | blk s =>
  obtain⟨b',h1,h2⟩:=h;have:b'=b:=Option.some.inj (h1.symm.trans hb);subst this;exact s.lt h2
 | know k=>rw [h.1] at hb;cases hb
 | reg r=>exact h b hb
 | vrow e sz fs =>
  obtain⟨_,_,v,xs,h1,_,_,h3,_⟩:=h;exact(h1.lt b (h3.trans hb)).2
theorem Sim.put (s:Sim B env ob a w σ Z) {k:Nat} (hk:k<B.N) {v:Value} {x:V} (h:D0 ob σ Z w v x) :
  Sim B (upd env k x) ob (a.put (some k) v) w σ Z :=
 { s with
  dfr:=s.dfr
  len:=by simpa [Act.put] using s.len
  env:=λj y hj=>by
   unfold upd at hj
   by_cases he:j=k
   ·subst he;simp only [if_true,Option.some.injEq] at hj;subst hj;exact⟨v,by simp [Act.put,s.len,hk],h⟩
   ·rw [if_neg he] at hj;obtain⟨u,hu,hr⟩:=s.env j y hj;exact⟨u,by simp [Act.put,Array.getElem?_setIfInBounds_ne (Ne.symm he),hu],hr⟩ }
theorem Sim.less (s:Sim B env ob a w σ Z) {env':Env} (h:∀ k x,env' k=some x->env k=some x):Sim B env' ob a w σ Z :=
 { s with env:=λk x hk=>s.env k x (h k x hk) }
theorem Sim.grow (s:Sim B env ob a w σ Z) {w':World} {Z':Nat->Prop} (hos:w'.os=w.os) (ht:w'.tape=w.tape) (ho:w'.output=w.output)
  (hsz:w.heap.size<=w'.heap.size) (hb:∀ k,k<w.heap.size->w'.heap[k]? = w.heap[k]?)
  (hZ:∀ b,Z b->Z' b) (hZ':∀ b,Z' b->Z b∨(w.heap.size<=b∧b<w'.heap.size)):Sim B env ob a w' σ Z':=by
 have hlt:∀ n b,live ob n->σ n=some b->b<w.heap.size:=λn b ⟨o,h⟩ hb=>Ob.lt (s.obj n o h) hb;have m:K4 ob ob σ σ Z Z' w w':=⟨⟨hZ,λb h=>hb b (s.zlt b h)⟩,λ_ h=>h,λ_ _ h=>⟨h,rfl⟩,λn b _ hl hn=>by
  simp only [World.shape?,hb b (hlt n b hl hn)]⟩
 refine { s with env:=?_,obj:=?_,blk:=?_,zlt:=?_,shp:=?_,os:=hos.trans s.os,tape:=ht.trans s.tape,output:=ho.trans s.output,size:=Nat.le_trans s.size hsz,block:=?_,zsub:=λb h=>hZ b (s.zsub b h),znew:=?_,foot:=?_ }
 ·intro k x hk;obtain⟨v,h1,h2⟩:=s.env k x hk;exact⟨v,h1,h2.move m⟩
 ·intro n o hn;have h:=s.obj n o hn;cases o with
  | box t x =>
   obtain⟨b,cs,h1,h2,h3,h4,h5⟩:=h;exact⟨b,cs,h1,by rw [hb b (hlt n b ⟨_,hn⟩ h1)];exact h2,h3,h4,V.rep_move m x _ h5⟩
  | row e sz es =>
   obtain⟨h0,h00,v,xs,h1,h2,h3,h4⟩:=h;refine⟨h0,h00,v,xs,?_,D.repL_ext m.ext es xs h2,h3,h4⟩;refine h1.kept (w':=w') (row:=none) ⟨hos,ht,ho,hsz,λk hk _=>hb k hk⟩ ?_;cases v.ownBlock<;>simp
  | blk sp =>
   obtain⟨b,h1,h2⟩:=h;exact⟨b,h1,sp.move m.ext (hb b (hlt n b ⟨_,hn⟩ h1)) h2⟩
  | know k=>exact⟨h.1,k.move m.ext h.2⟩
  | reg r=>exact λb hb=>Nat.lt_of_lt_of_le (h b hb) hsz
  | vrow e sz fs =>
   obtain⟨h0,h00,v,xs,h1,h1',h2,h3,h4⟩:=h;refine⟨h0,h00,v,xs,?_,h1',V.repS_move m fs xs h2,h3,h4⟩;refine h1.kept (w':=w') (row:=none) ⟨hos,ht,ho,hsz,λk hk _=>hb k hk⟩ ?_;cases v.ownBlock<;>simp
 ·intro n b hl hn;obtain⟨h1,h2⟩:=s.blk n b hl hn;refine⟨λhz => ?_,h2⟩;rcases hZ' b hz with hz | ⟨hz,_⟩
  ·exact h1 hz
  ·have:=hlt n b hl hn;omega
 ·intro b hz;rcases hZ' b hz with hz | ⟨_,hz⟩
  ·exact Nat.lt_of_lt_of_le (s.zlt b hz) hsz
  ·exact hz
 ·intro n b hp hl;rw [<- s.shp n b hp hl];simp only [World.shape?,hb b (hlt n b hl (s.pin n b hp hl))]
 ·intro b h;rcases hZ' b h with h | ⟨h,_⟩
  ·exact s.znew b h
  ·exact .inr (.inl (Nat.le_trans s.size h))
 ·intro k hk ho';rw [hb k (Nat.lt_of_lt_of_le hk s.size)];exact s.block k hk ho'
 ·refine s.foot.move m.ext hsz (λn r h=>⟨h,rfl⟩) (λn b ⟨r,hr⟩ h=>hb b (hlt n b ⟨_,hr⟩ h)) (λb _ hl _=>hb b hl) (λb hz => ?_) (λm' b hl h => .inr ⟨m',hl,h⟩);rcases hZ' b hz with hz | ⟨hz,_⟩
  ·exact .inl hz
  ·exact .inr (.inl hz)
theorem Sim.drew (s:Sim B env ob a w σ Z):Sim B env ob a w.drew σ Z :=
 s.grow rfl rfl rfl (Nat.le_refl _) (λ_ _=>rfl) (λ_ h=>h) (λ_ h => .inl h)
theorem Sim.allocZ (s:Sim B env ob a w σ Z) (o:Obj):Sim B env ob a (w.alloc o) σ (λb=>Z b∨b=w.heap.size) :=
 s.grow rfl rfl rfl (by simp) (λk hk=>Go.RowKit.Below.heap_alloc w o k hk) (λ_ h => .inl h) (λb h=>by
  rcases h with h | h
  ·exact .inl h
  ·subst h;exact .inr ⟨Nat.le_refl _,by simp⟩)
theorem Sim.alloc (s:Sim B env ob a w σ Z) (o:Obj):Sim B env ob a (w.alloc o) σ Z :=
 s.grow rfl rfl rfl (by simp) (λk hk=>Go.RowKit.Below.heap_alloc w o k hk) (λ_ h=>h) (λ_ h => .inl h)
end
end Go.Vc
namespace Go.Vc
open Go
variable {x:Nat} {α:Type} {l:List (Nat×α)}
def A1 {α:Type}:List (Nat×α)->Nat->Option α
 | [],_=>none
 | (j,x) :: l,k=>bif Nat.beq j k then some x else A1 l k
theorem A4 (j k:Nat) (x:α) (l:List (Nat×α)):A1 ((j,x) :: l) k=if j=k then some x else A1 l k:=by
 simp only [A1]
 by_cases h:j=k
 ·subst h;simp
 ·have:Nat.beq j k=false:=by cases hb:Nat.beq j k<;>simp_all
  simp [this,h]
theorem H2 {α:Type} {k:Nat} {x:α}:∀ {l:List (Nat×α)},A1 l k=some x->(k,x)∈l
 | [],h=>by simp [A1] at h
 | (j,y) :: l,h=>by
  rw [A4] at h
  by_cases hj:j=k
  ·subst hj;simp at h;subst h;exact List.mem_cons_self ..
  ·rw [if_neg hj] at h;exact List.mem_cons_of_mem _ (H2 h)
structure Eff where
 nt:List (Nat×V):=[]
 no:List (Nat×Ob):=[]
 nf:List Nat:=[]
 wt:List (Nat×V):=[]
 wo:List (Nat×Option Ob):=[]
def Eff.env (α:Eff) (env:Env):Env:=λk=>match A1 α.wt k with | some x=>some x | none=>env k
def Eff.obs (α:Eff) (ob:Obs):Obs:=λn=>match A1 α.wo n with | some x=>some x | none=>ob n
def Eff.needs (α:Eff) (env:Env) (ob:Obs):Prop :=
 (∀ p∈α.nt,env p.1=some p.2)∧(∀ p∈α.no,ob p.1=some (some p.2))∧(∀ n∈α.nf,ob n=none)
def OpJ (P:Program) (B:D5) (ops:Array Oper) (o:Oper) (α:Eff):Prop :=
 ∀ (Q:Exit->Act->World->Prop) (env:Env) (ob:Obs) (a:Act) (w:World) (σ:Nat->Option Nat) (Z:Nat->Prop) (K:Act->World->Prop),
  Sim B env ob a w σ Z->α.needs env ob->(∀ a' w' σ' Z',Sim B (α.env env) (α.obs ob) a' w' σ' Z'->K a' w') ->
  if Region.wanted o (yielded ops a.tmps)=true then o.wp P a w K Q else K (a.put o.dst undef) w
def C02 (P:Program) (B:D5) (ops:Array Oper) (I:Obs->Prop) (o:Oper) (α:Eff):Prop :=
 ∀ (Q:Exit->Act->World->Prop) (env:Env) (ob:Obs) (a:Act) (w:World) (σ:Nat->Option Nat) (Z:Nat->Prop) (K:Act->World->Prop),I ob ->
  Sim B env ob a w σ Z->α.needs env ob->(∀ a' w' σ' Z',Sim B (α.env env) (α.obs ob) a' w' σ' Z'->K a' w') ->
  if Region.wanted o (yielded ops a.tmps)=true then o.wp P a w K Q else K (a.put o.dst undef) w
theorem OpJ.toI {P:Program} {B:D5} {ops:Array Oper} {I:Obs->Prop} {o:Oper} {α:Eff} (h:OpJ P B ops o α):C02 P B ops I o α:=λQ env ob a w σ Z K _=>h Q env ob a w σ Z K
def M9 (S:Nat->Bool):List Eff->Nat->Env->Env
 | [],_,env=>env
 | α :: l,i,env=>M9 S l (i+1) (if S i then α.env env else env)
def L9 (S:Nat->Bool):List Eff->Nat->Obs->Obs
 | [],_,ob=>ob
 | α :: l,i,ob=>L9 S l (i+1) (if S i then α.obs ob else ob)
def Z6:List Eff->Env->Obs->Prop
 | [],_,_=>True
 | α :: l,env,ob=>α.needs env ob∧Z6 l (α.env env) (α.obs ob)
theorem Dx (k:Nat):∀ (l:List Eff) (i:Nat) (env env':Env) (S S':Nat->Bool),env k=env' k ->
  (∀ j α,l[j]? = some α->A1 α.wt k≠none->S (i+j)=S' (i+j))->M9 S l i env k=M9 S' l i env' k
 | [],_,_,_,_,_,h,_=>h
 | α :: l,i,env,env',S,S',h,hs=>by
  simp only [M9];refine Dx k l (i+1) _ _ S S' ?_ (λj β hj hb=>by have:=hs (j+1) β (by simpa using hj) hb;rwa [show i+(j+1)=i+1+j from by omega] at this)
  by_cases hn:A1 α.wt k=none
  ·have e:∀ (c:Bool) (e:Env),(if c then α.env e else e) k=e k:=λc e=>by cases c<;>simp [Eff.env,hn]
   rw [e,e,h]
  ·have:=hs 0 α rfl hn;simp only [Nat.add_zero] at this;rw [this];cases S' i
   ·simpa using h
   ·simp only [if_true,Eff.env];cases hl:A1 α.wt k<;>simp_all
theorem Bd (k:Nat):∀ (l:List Eff) (i:Nat) (ob ob':Obs) (S S':Nat->Bool),ob k=ob' k ->
  (∀ j α,l[j]? = some α->A1 α.wo k≠none->S (i+j)=S' (i+j))->L9 S l i ob k=L9 S' l i ob' k
 | [],_,_,_,_,_,h,_=>h
 | α :: l,i,ob,ob',S,S',h,hs=>by
  simp only [L9];refine Bd k l (i+1) _ _ S S' ?_ (λj β hj hb=>by have:=hs (j+1) β (by simpa using hj) hb;rwa [show i+(j+1)=i+1+j from by omega] at this)
  by_cases hn:A1 α.wo k=none
  ·have e:∀ (c:Bool) (e:Obs),(if c then α.obs e else e) k=e k:=λc e=>by cases c<;>simp [Eff.obs,hn]
   rw [e,e,h]
  ·have:=hs 0 α rfl hn;simp only [Nat.add_zero] at this;rw [this];cases S' i
   ·simpa using h
   ·simp only [if_true,Eff.obs];cases hl:A1 α.wo k<;>simp_all
theorem Ai:∀ (l:List Eff) (i:Nat) (env:Env) (S:Nat->Bool),(∀ m,i<=m->S m=false)->M9 S l i env=env
 | [],_,_,_,_=>rfl
 | α :: l,i,env,S,h=>by
  simp only [M9,h i (Nat.le_refl _)];exact Ai l (i+1) env S (λm hm=>h m (by omega))
theorem Aj:∀ (l:List Eff) (i:Nat) (ob:Obs) (S:Nat->Bool),(∀ m,i<=m->S m=false)->L9 S l i ob=ob
 | [],_,_,_,_=>rfl
 | α :: l,i,ob,S,h=>by
  simp only [L9,h i (Nat.le_refl _)];exact Aj l (i+1) ob S (λm hm=>h m (by omega))
theorem Jl:∀ (l:List Eff) (i j:Nat) (env:Env) (ob:Obs) (α:Eff),Z6 l env ob->l[j]? = some α ->
  α.needs (M9 (λm=>decide (m<i+j)) l i env) (L9 (λm=>decide (m<i+j)) l i ob)
 | [],_,_,_,_,_,_,h=>by simp at h
 | β :: l,i,0,env,ob,α,hn,h=>by
  simp at h;subst h;rw [Ai _ _ _ _ (λm hm=>by simp;omega),Aj _ _ _ _ (λm hm=>by simp;omega)];exact hn.1
 | β :: l,i,j+1,env,ob,α,hn,h=>by
  have:=Jl l (i+1) j (β.env env) (β.obs ob) α hn.2 (by simpa using h);simp only [M9,L9,show decide (i<i+(j+1))=true from by simp,if_true];rw [show i+(j+1)=i+1+j from by omega];exact this
def B8 {α:Type} (l:List (Nat×α)):List Nat:=l.map (·.1)
def Az (xs ys:List Nat):Bool:=xs.all λx=>ys.all λy => !Nat.beq x y
def S7 (α β:Eff):Bool :=
 Az (B8 α.wt) (B8 β.nt++B8 β.wt)&&Az (B8 β.wt) (B8 α.nt) &&
 Az (B8 α.wo) (B8 β.no++β.nf++B8 β.wo)&&Az (B8 β.wo) (B8 α.no++α.nf)
theorem B59 {y:Nat} (h:(!Nat.beq x y)=true):x≠y:=by
 intro e;subst e;have:Nat.beq x x=true:=by simp
 simp at h
theorem Ak {xs ys:List Nat} (h:Az xs ys=true) (hx:x∈xs) (hy:x∈ys):False:=by
 simp only [Az,List.all_eq_true] at h;exact B59 (h x hx x hy) rfl
theorem W1 {k:Nat} (h:A1 l k≠none):k∈B8 l:=by
 cases hl:A1 l k with
 | none=>exact absurd hl h
 | some x=>exact List.mem_map.2 ⟨_,H2 hl,rfl⟩
theorem Le {p:Nat×α} (h:p∈l):p.1∈B8 l:=List.mem_map.2 ⟨p,h,rfl⟩
def reaches (ops:Array Oper):Nat->Nat->Nat->Bool
 | 0,_,_=>false
 | f+1,j,i=>match ops[j]? with
  | none=>false
  | some o=>o.after.any (λe=>Region.binds .any e&&Nat.beq e.on i) || o.after.any (λe=>Region.binds .any e&&reaches ops f e.on i)
def A32 (ops:Array Oper):Bool:=(List.range ops.size).all λi=>((ops[i]?).map λo=>o.after.all λe => !Region.binds .any e || decide (e.on<i)).getD true
def Z7 (ops:Array Oper) (effs:List Eff):Bool :=
 A32 ops&&Nat.beq effs.length ops.size &&
 (List.range effs.length).all λj=>(List.range j).all λi=>S7 (effs.getD i {}) (effs.getD j {}) || reaches ops (j+1) j i
def Cg (ops:Array Oper) (S:Nat->Bool):Prop:=∀ (j:Nat) (o:Oper),ops[j]? = some o->S j=true->∀ e∈o.after,Region.binds .any e=true->S e.on=true
theorem Cp {ops:Array Oper} {S:Nat->Bool} (hc:Cg ops S):∀ (f j i:Nat),reaches ops f j i=true->S j=true->S i=true
 | 0,_,_,h,_=>by simp [reaches] at h
 | f+1,j,i,h,hj=>by
  simp only [reaches] at h;cases ho:ops[j]? with
  | none=>simp [ho] at h
  | some o =>
   simp only [ho,Bool.or_eq_true] at h;rcases h with h | h
   ·obtain⟨e,he,hb⟩:=Array.any_eq_true'.1 h;simp only [Bool.and_eq_true] at hb;have:=hc j o ho hj e he hb.1;rwa [Nat.eq_of_beq_eq_true hb.2] at this
   ·obtain⟨e,he,hb⟩:=Array.any_eq_true'.1 h;simp only [Bool.and_eq_true] at hb;exact Cp hc f e.on i hb.2 (hc j o ho hj e he hb.1)
section
variable {P:Program} {B:D5} {ops:Array Oper} {effs:List Eff} {Q:Exit->Act->World->Prop}
variable {β:Eff} {i k:Nat} {S:Nat->Bool} {ob:Obs}
theorem order {S:Nat->Bool} (hc:Cg ops S) (hn:Z7 ops effs=true) {i j:Nat} {α β:Eff} (hij:i<j) (hi:effs[i]? = some α) (hj:effs[j]? = some β)
  (hx:S7 α β=false) (hS:S j=true):S i=true:=by
 simp only [Z7,Bool.and_eq_true,List.all_eq_true,List.mem_range] at hn;have hjl:j<effs.length:=(List.getElem?_eq_some_iff.1 hj).1;have:=hn.2 j hjl i hij;rw [show effs.getD i {}=α from by simp [List.getD,hi],show effs.getD j {}=β from by simp [List.getD,hj],hx,Bool.false_or] at this;exact Cp hc _ _ _ this hS
theorem Jm {α:Eff} (h:k∈B8 α.wt) (h':k∈B8 β.nt∨k∈B8 β.wt):S7 α β=false:=by
 cases hb:S7 α β with
 | false=>rfl
 | true =>
  simp only [S7,Bool.and_eq_true] at hb;exact(Ak hb.1.1.1 h (by rw [List.mem_append];exact h')).elim
theorem Rk {α:Eff} (h:k∈B8 β.wt) (h':k∈B8 α.nt):S7 α β=false:=by
 cases hb:S7 α β with
 | false=>rfl
 | true =>
  simp only [S7,Bool.and_eq_true] at hb;exact(Ak hb.1.1.2 h h').elim
theorem Jn {α:Eff} (h:k∈B8 α.wo) (h':k∈B8 β.no∨k∈β.nf∨k∈B8 β.wo):S7 α β=false:=by
 cases hb:S7 α β with
 | false=>rfl
 | true =>
  simp only [S7,Bool.and_eq_true] at hb;exact(Ak hb.1.2 h (by rw [List.mem_append,List.mem_append];rcases h' with h' | h' | h'<;>first | exact .inl (.inl h') | exact .inl (.inr h') | exact .inr h')).elim
theorem Fs {α:Eff} (h:k∈B8 β.wo) (h':k∈B8 α.no∨k∈α.nf):S7 α β=false:=by
 cases hb:S7 α β with
 | false=>rfl
 | true =>
  simp only [S7,Bool.and_eq_true] at hb;exact(Ak hb.2 h (by rw [List.mem_append];exact h')).elim
theorem Jo (hc:Cg ops S) (hn:Z7 ops effs=true) {j:Nat} {α:Eff} (hi:effs[i]? = some α) (hj:effs[j]? = some β) (hS:S i=false) (hready:∀ m,(∀ (γ:Eff),effs[m]? = some γ->m<i->S7 γ α=false->S m=true)) (hx:j<i->S7 β α=false) (hx':i<j->S7 α β=false) (hne:j=i->False) :
  S j=decide (j<0+i):=by
 rw [Nat.zero_add];rcases Nat.lt_trichotomy j i with h | h | h
 ·rw [hready j β hj h (hx h)];simp [h]
 ·exact(hne h).elim
 ·cases hs:S j with
  | false=>simp;omega
  | true =>
   have:=order hc hn h hi hj (hx' h) hs;rw [hS] at this;cases this
theorem B1s (hc:Cg ops S) (hn:Z7 ops effs=true) {env:Env} (hall:Z6 effs env ob) {α:Eff} (hi:effs[i]? = some α) (hS:S i=false) (hready:∀ (m:Nat) (γ:Eff),effs[m]? = some γ->m<i->S7 γ α=false->S m=true) :
  α.needs (M9 S effs 0 env) (L9 S effs 0 ob) ∧
  M9 (λm=>S m || Nat.beq m i) effs 0 env=α.env (M9 S effs 0 env)∧L9 (λm=>S m || Nat.beq m i) effs 0 ob=α.obs (L9 S effs 0 ob):=by
 have hat:=Jl effs 0 i env ob α hall hi;have wagree:∀ (k:Nat) (j:Nat) (β:Eff),effs[j]? = some β->k∈B8 β.wt->(k∈B8 α.nt∨k∈B8 α.wt)->j≠i->S j=decide (j<0+i):=by
  intro k j β hj hk hk' hne;refine Jo hc hn hi hj hS hready (λ_=>Jm hk hk') (λ_ => ?_) hne;rcases hk' with h | h
  ·exact Rk hk h
  ·exact Jm h (.inr hk)
 have oagree:∀ (k:Nat) (j:Nat) (β:Eff),effs[j]? = some β->k∈B8 β.wo->(k∈B8 α.no∨k∈α.nf∨k∈B8 α.wo)->j≠i->S j=decide (j<0+i):=by
  intro k j β hj hk hk' hne;refine Jo hc hn hi hj hS hready (λ_=>Jn hk hk') (λ_ => ?_) hne;rcases hk' with h | h | h
  ·exact Fs hk (.inl h)
  ·exact Fs hk (.inr h)
  ·exact Jn h (.inr (.inr hk))
 have self:∀ (j:Nat) (β:Eff),effs[j]? = some β->j=i->β=α:=λj β hj e=>by subst e;exact Option.some.inj (hj.symm.trans hi)
 have beqi:∀ m,Nat.beq m i=decide (m=i):=λm=>by
  by_cases h:m=i
  ·subst h;simp
  ·cases hb:Nat.beq m i with
   | false=>simp [h]
   | true=>exact absurd (Nat.eq_of_beq_eq_true hb) h
 refine⟨⟨λp hp => ?_,λp hp => ?_,λn hp => ?_⟩,funext λk => ?_,funext λk => ?_⟩
 ·rw [<- hat.1 p hp];refine Dx p.1 effs 0 env env S _ rfl (λj β hj hw => ?_)
  by_cases hne:j=i
  ·rw [Nat.zero_add,hne,hS];simp
  ·rw [Nat.zero_add];exact wagree p.1 j β hj (W1 hw) (.inl (Le hp)) hne
 ·rw [<- hat.2.1 p hp];refine Bd p.1 effs 0 ob ob S _ rfl (λj β hj hw => ?_)
  by_cases hne:j=i
  ·rw [Nat.zero_add,hne,hS];simp
  ·rw [Nat.zero_add];exact oagree p.1 j β hj (W1 hw) (.inl (Le hp)) hne
 ·rw [<- hat.2.2 n hp];refine Bd n effs 0 ob ob S _ rfl (λj β hj hw => ?_)
  by_cases hne:j=i
  ·rw [Nat.zero_add,hne,hS];simp
  ·rw [Nat.zero_add];exact oagree n j β hj (W1 hw) (.inr (.inl hp)) hne
 ·by_cases hk:A1 α.wt k=none
  ·simp only [Eff.env,hk];refine Dx k effs 0 env env _ _ rfl (λj β hj hw => ?_);rw [Nat.zero_add,beqi]
   by_cases hne:j=i
   ·have:=self j β hj hne;subst this;exact absurd hk hw
   ·simp [hne]
  ·have h1:M9 (λm=>S m || Nat.beq m i) effs 0 env k=M9 (λm=>decide (m<0+(i+1))) effs 0 env k:=by
    refine Dx k effs 0 env env _ _ rfl (λj β hj hw => ?_);rw [Nat.zero_add,beqi]
    by_cases hne:j=i
    ·subst hne;simp
    ·rw [wagree k j β hj (W1 hw) (.inr (W1 hk)) hne];simp [hne];omega
   rw [h1];have h2:∀ (l:List Eff) (o:Nat) (i:Nat) (env:Env),l[i]? = some α->M9 (λm=>decide (m<o+(i+1))) l o env k=A1 α.wt k:=by
    intro l;induction l with
    | nil=>intro o i env h;simp at h
    | cons β l ih =>
     intro o i env h;cases i with
     | zero =>
      simp at h;subst h;simp only [M9];rw [Ai _ _ _ _ (λm hm=>by simp;omega)];simp only [show decide (o<o+(0+1))=true from by simp,if_true,Eff.env];cases hl:A1 β.wt k<;>simp_all
     | succ i =>
      simp only [M9];rw [show o+(i+1+1)=o+1+(i+1) from by omega];exact ih (o+1) i _ (by simpa using h)
   rw [h2 effs 0 i env hi];simp only [Eff.env];cases hl:A1 α.wt k<;>simp_all
 ·by_cases hk:A1 α.wo k=none
  ·simp only [Eff.obs,hk];refine Bd k effs 0 ob ob _ _ rfl (λj β hj hw => ?_);rw [Nat.zero_add,beqi]
   by_cases hne:j=i
   ·have:=self j β hj hne;subst this;exact absurd hk hw
   ·simp [hne]
  ·have h1:L9 (λm=>S m || Nat.beq m i) effs 0 ob k=L9 (λm=>decide (m<0+(i+1))) effs 0 ob k:=by
    refine Bd k effs 0 ob ob _ _ rfl (λj β hj hw => ?_);rw [Nat.zero_add,beqi]
    by_cases hne:j=i
    ·subst hne;simp
    ·rw [oagree k j β hj (W1 hw) (.inr (.inr (W1 hk))) hne];simp [hne];omega
   rw [h1];have h2:∀ (l:List Eff) (o:Nat) (i:Nat) (ob:Obs),l[i]? = some α->L9 (λm=>decide (m<o+(i+1))) l o ob k=A1 α.wo k:=by
    intro l;induction l with
    | nil=>intro o i ob h;simp at h
    | cons β l ih =>
     intro o i ob h;cases i with
     | zero =>
      simp at h;subst h;simp only [L9];rw [Aj _ _ _ _ (λm hm=>by simp;omega)];simp only [show decide (o<o+(0+1))=true from by simp,if_true,Eff.obs];cases hl:A1 β.wo k<;>simp_all
     | succ i =>
      simp only [L9];rw [show o+(i+1+1)=o+1+(i+1) from by omega];exact ih (o+1) i _ (by simpa using h)
   rw [h2 effs 0 i ob hi];simp only [Eff.obs];cases hl:A1 α.wo k<;>simp_all
def Dj:List Eff->Env->Env
 | [],env=>env
 | α :: l,env=>Dj l (α.env env)
def Dk:List Eff->Obs->Obs
 | [],ob=>ob
 | α :: l,ob=>Dk l (α.obs ob)
theorem Lg:∀ (l:List Eff) (i:Nat) (env:Env) (S:Nat->Bool),(∀ j,i<=j->j<i+l.length->S j=true)->M9 S l i env=Dj l env
 | [],_,_,_,_=>rfl
 | α :: l,i,env,S,h=>by
  simp only [M9,Dj,h i (Nat.le_refl _) (by simp),if_true];exact Lg l (i+1) _ S (λj h1 h2=>h j (by omega) (by simp;omega))
theorem Lh:∀ (l:List Eff) (i:Nat) (ob:Obs) (S:Nat->Bool),(∀ j,i<=j->j<i+l.length->S j=true)->L9 S l i ob=Dk l ob
 | [],_,_,_,_=>rfl
 | α :: l,i,ob,S,h=>by
  simp only [L9,Dk,h i (Nat.le_refl _) (by simp),if_true];exact Lh l (i+1) _ S (λj h1 h2=>h j (by omega) (by simp;omega))
inductive Kh (P:Program) (B:D5) (ops:Array Oper):List Oper->List Eff->Prop
 | nil:Kh P B ops [] []
 | cons {o:Oper} {α:Eff} {os:List Oper} {l:List Eff}:OpJ P B ops o α->Kh P B ops os l->Kh P B ops (o :: os) (α :: l)
theorem Kh.get:∀ {os:List Oper} {l:List Eff},Kh P B ops os l->∀ (i:Nat) (o:Oper) (α:Eff),os[i]? = some o->l[i]? = some α->OpJ P B ops o α
 | _,_,.nil,_,_,_,h,_=>by simp at h
 | _,_,.cons h _,0,o,α,ho,hα=>by simp at ho hα;subst ho;subst hα;exact h
 | _,_,.cons _ t,i+1,o,α,ho,hα=>t.get i o α (by simpa using ho) (by simpa using hα)
theorem Kh.length:∀ {os:List Oper} {l:List Eff},Kh P B ops os l->l.length=os.length
 | _,_,.nil=>rfl
 | _,_,.cons _ t=>by simp [t.length]
theorem Jp:∀ {os:List Oper} {l:List Eff},Kh P B ops os l->∀ {env:Env} {ob:Obs},Z6 l env ob->∀ {a:Act} {w:World} {σ:Nat->Option Nat} {Z:Nat->Prop},
  Sim B env ob a w σ Z->(∀ a' w' σ' Z',Sim B (Dj l env) (Dk l ob) a' w' σ' Z'->Q .normal a' w')->wpList P ops Q os a w
 | _,_,.nil,_,_,_,_,_,_,_,s,h=>h _ _ _ _ s
 | o :: os,α :: l,.cons hj t,env,ob,hn,a,w,σ,Z,s,h=>by
  refine wpList_step λK hK => ?_;exact hj Q env ob a w σ Z K s hn.1 λa' w' σ' Z' s'=>hK _ _ (Jp t hn.2 s' h)
theorem Li {listed:Array Bool} (h:i∈Region.ready .any ops listed):i<ops.size∧listed.getD i true=false∧∀ o,ops[i]? = some o->∀ e∈o.after,Region.binds .any e=true->listed.getD e.on false=true:=by
 simp only [Region.ready,List.mem_filter,List.mem_range,Bool.and_eq_true,Bool.not_eq_true'] at h;refine⟨h.1,h.2.1,λo ho e he hb => ?_⟩;have:=h.2.2;rw [ho] at this;simp only [Option.map_some,Option.getD_some] at this;have:=Array.all_eq_true'.1 this e he;simpa [hb] using this
theorem Ul {env:Env} (I:Nat->Obs->Prop) (hlen:effs.length=ops.size) (hjs:∀ (i:Nat) (o:Oper) (α:Eff),ops[i]? = some o->effs[i]? = some α->C02 P B ops (I i) o α) (hI:∀ (i:Nat) (S:Nat->Bool),Cg ops S->S i=false->I i (L9 S effs 0 ob)) (hn:Z7 ops effs=true) (hall:Z6 effs env ob) (hQ:∀ a' w' σ' Z',Sim B (Dj effs env) (Dk effs ob) a' w' σ' Z'->Q .normal a' w') :
  ∀ (fuel:Nat) (listed:Array Bool),listed.size=ops.size->((List.range ops.size).filter λi => !listed.getD i true).length<=fuel->Cg ops (λi=>listed.getD i false) ->
   ∀ (a:Act) (w:World) (σ:Nat->Option Nat) (Z:Nat->Prop),Sim B (M9 (λi=>listed.getD i false) effs 0 env) (L9 (λi=>listed.getD i false) effs 0 ob) a w σ Z ->
   wpAny P .any ops Q fuel listed a w:=by
 have hforth:A32 ops=true:=by simp only [Z7,Bool.and_eq_true] at hn;exact hn.1.1
 have done:∀ (listed:Array Bool),listed.size=ops.size->Region.ready .any ops listed=[]->∀ j,j<ops.size->listed.getD j false=true:=by
  intro listed hs hr j;induction j using Nat.strongRecOn with
  | ind j ih =>
   intro hj;cases hg:listed.getD j false with
   | true=>rfl
   | false =>
    have hmem:j∈Region.ready .any ops listed:=by
     simp only [Region.ready,List.mem_filter,List.mem_range,Bool.and_eq_true,Bool.not_eq_true'];have hj':j<listed.size:=by omega
     refine⟨hj,by simpa [Array.getD,hj'] using hg,?_⟩;rw [Array.getElem?_eq_getElem hj];simp only [Option.map_some,Option.getD_some];refine Array.all_eq_true'.2 λe he => ?_;cases hb:Region.binds .any e with
     | false=>simp
     | true =>
      simp only [A32,List.all_eq_true,List.mem_range] at hforth;have:=hforth j hj;rw [Array.getElem?_eq_getElem hj] at this;simp only [Option.map_some,Option.getD_some] at this;have:=Array.all_eq_true'.1 this e he;rw [hb] at this;have hlt:e.on<j:=by simpa using this
      simpa using ih e.on hlt (by omega)
    rw [hr] at hmem;cases hmem
 have fin:∀ (listed:Array Bool),listed.size=ops.size->Region.ready .any ops listed=[]->∀ a w σ Z,
   Sim B (M9 (λi=>listed.getD i false) effs 0 env) (L9 (λi=>listed.getD i false) effs 0 ob) a w σ Z->Q .normal a w:=by
  intro listed hs hr a w σ Z s;have hd:=done listed hs hr;rw [Lg effs 0 env _ (λj _ hj=>hd j (by omega)),Lh effs 0 ob _ (λj _ hj=>hd j (by omega))] at s;exact hQ _ _ _ _ s
 intro fuel;induction fuel with
 | zero =>
  intro listed hs hf hc a w σ Z s;have hr:Region.ready .any ops listed=[]:=by
   rw [List.eq_nil_iff_forall_not_mem];intro i hi;obtain⟨h1,h2,_⟩:=Li hi;have hmem:i∈(List.range ops.size).filter λi => !listed.getD i true:=by
    rw [List.mem_filter];exact⟨by simpa using h1,by rw [h2];rfl⟩
   have:=List.length_pos_of_mem hmem;omega
  exact⟨hr,fin listed hs hr a w σ Z s⟩
 | succ fuel ih =>
  intro listed hs hf hc a w σ Z s;refine⟨λhr=>fin listed hs hr a w σ Z s,λi hi => ?_⟩;obtain⟨h1,h2,h3⟩:=Li hi;have hi':i<listed.size:=by omega
  have hl:i<effs.length:=by omega
  have ho:ops[i]? = some ops[i]:=Array.getElem?_eq_getElem h1;have hα:effs[i]? = some effs[i]:=List.getElem?_eq_getElem hl;have hS:(λi=>listed.getD i false) i=false:=by simpa [Array.getD,hi'] using h2
  have hnew:(λm=>(listed.setIfInBounds i true).getD m false)=λm=>listed.getD m false || Nat.beq m i:=by
   funext m
   by_cases hm:m=i
   ·subst hm;simp [Array.getD,hi']
   ·have:Nat.beq m i=false:=by cases hb:Nat.beq m i with | false=>rfl | true=>exact absurd (Nat.eq_of_beq_eq_true hb) hm
    rw [this,Bool.or_false];simp only [Array.getD_eq_getD_getElem?];rw [Array.getElem?_setIfInBounds_ne (Ne.symm hm)]
  have hc':Cg ops (λm=>(listed.setIfInBounds i true).getD m false):=by
   rw [hnew];intro j o hj hS' e he hb;simp only [Bool.or_eq_true] at hS' ⊢;rcases hS' with hS' | hS'
   ·exact .inl (hc j o hj hS' e he hb)
   ·have:=Nat.eq_of_beq_eq_true hS';subst this;exact .inl (h3 o hj e he hb)
  have hcount:((List.range ops.size).filter λm => !(listed.setIfInBounds i true).getD m true).length<=fuel:=by
   have hsub:(List.range ops.size).filter (λm => !(listed.setIfInBounds i true).getD m true)=((List.range ops.size).filter λm => !listed.getD m true).filter λm=>m != i:=by
    rw [List.filter_filter];refine List.filter_congr λm hm => ?_
    by_cases he:m=i
    ·subst he;simp [Array.getD,hi']
    ·have hbne:(m != i)=true:=by simp [he]
     rw [hbne,Bool.true_and];simp only [Array.getD_eq_getD_getElem?];rw [Array.getElem?_setIfInBounds_ne (Ne.symm he)]
   rw [hsub];have hmem:i∈(List.range ops.size).filter λm => !listed.getD m true:=by rw [List.mem_filter];exact⟨by simpa using h1,by rw [h2];rfl⟩
   have hlt:=List.length_filter_lt_length_iff_exists (l:=(List.range ops.size).filter λm => !listed.getD m true) (p:=λm=>m != i) |>.2 ⟨i,hmem,by simp⟩;omega
  have hready:∀ (m:Nat) (γ:Eff),effs[m]? = some γ->m<i->S7 γ effs[i]=false->(λi=>listed.getD i false) m=true:=by
   intro m γ hm hlt hx;have hT:Cg ops (λm=>listed.getD m false || Nat.beq m i):=by rw [<- hnew];exact hc'
   have:=order hT hn hlt hm hα hx (by simp);simp only [Bool.or_eq_true] at this;rcases this with this | this
   ·exact this
   ·have:=Nat.eq_of_beq_eq_true this;omega
  obtain⟨g1,g2,g3⟩:=B1s hc hn hall hα hS hready;have hj:=hjs i ops[i] effs[i] ho hα;have hstep:=hj Q _ _ a w σ Z (wpAny P .any ops Q fuel (listed.setIfInBounds i true)) (hI i _ hc hS) s g1 (λa' w' σ' Z' s'=>by
   refine ih (listed.setIfInBounds i true) (by simpa using hs) hcount hc' a' w' σ' Z' ?_;rw [hnew,g2,g3];exact s')
  simp only [wpOp,ho];split
  ·rename_i hw;rw [if_pos hw] at hstep;exact .inl hstep
  ·rename_i hw;rw [if_neg hw] at hstep;exact hstep
theorem Ya (hjs:Kh P B ops ops.toList effs) (hn:Z7 ops effs=true) {env:Env} (hall:Z6 effs env ob) (hQ:∀ a' w' σ' Z',Sim B (Dj effs env) (Dk effs ob) a' w' σ' Z'->Q .normal a' w') :
  ∀ (fuel:Nat) (listed:Array Bool),listed.size=ops.size->((List.range ops.size).filter λi => !listed.getD i true).length<=fuel->Cg ops (λi=>listed.getD i false) ->
   ∀ (a:Act) (w:World) (σ:Nat->Option Nat) (Z:Nat->Prop),Sim B (M9 (λi=>listed.getD i false) effs 0 env) (L9 (λi=>listed.getD i false) effs 0 ob) a w σ Z ->
   wpAny P .any ops Q fuel listed a w :=
 Ul (λ_ _=>True) (by rw [hjs.length,Array.length_toList]) (λi o α ho hα=>(hjs.get i o α (by simpa using ho) hα).toI) (λ_ _ _ _=>trivial) hn hall hQ
end
end Go.Vc
namespace Go.Vc
open Go
variable {P:Program} {B:D5} {ops:Array Oper}
def Opd (x:Operand) (v:V) (nt:List (Nat×V)):Prop :=
 ∀ (B:D5) (env:Env) (ob:Obs) (a:Act) (w:World) (σ:Nat->Option Nat) (Z:Nat->Prop),Sim B env ob a w σ Z->(∀ p∈nt,env p.1=some p.2)->D0 ob σ Z w (a.eval x) v
theorem Opd.tmp (t:Nat) (v:V):Opd (.tmp t) v [(t,v)]:=λB env ob a w σ Z s h=>by
 obtain⟨cv,h1,h2⟩:=s.env t v (h (t,v) (by simp));have:a.eval (.tmp t)=cv:=by simp [Act.eval,h1]
 rw [this];exact h2
theorem Opd.bool (b:Bool):Opd (.const (.bool b)) (.d (.bool b)) []:=λB env ob a w σ Z s h=>by simp [Act.eval,D0,F3,V.isAgg,D.isAgg,V.rep,D.rep,Value.oneCell']
theorem Opd.int (k:IntKind) (n:Int):Opd (.const (.int k n)) (.d (.int k n)) []:=λB env ob a w σ Z s h=>by simp [Act.eval,D0,F3,V.isAgg,D.isAgg,V.rep,D.rep,Value.oneCell']
theorem Opd.nils:Opd (.const (.slice none 0 0)) .nils []:=λB env ob a w σ Z s h=>by simp [Act.eval,D0,F3,V.isAgg,V.rep,Value.oneCell']
theorem Opd.str (s:List UInt8) (b:ByteArray) (hb:b=⟨s.toArray⟩):Opd (.const (.string b)) (.d (.str s)) []:=λB env ob a w σ Z _ h=>by simp [hb,Act.eval,D0,F3,V.isAgg,D.isAgg,V.rep,D.rep,Value.oneCell']
theorem Opd.func (f:FuncId):Opd (.func f) (.func f []) []:=λB env ob a w σ Z s h=>by simp [Act.eval,D0,F3,V.isAgg,V.rep,V.repL,Value.oneCell']
theorem Ft {α:Type} (d k:Nat) (x:α):A1 [(d,x)] k=if d=k then some x else none:=by rw [A4];rfl
theorem O8 {d:Nat} {v:V} (α:Eff) (h:α.wt=[(d,v)]) {env:Env}:α.env env=upd env d v:=by
 funext k;simp only [Eff.env,h,Ft,upd]
 by_cases hd:d=k
 ·subst hd;simp
 ·rw [if_neg hd,if_neg (Ne.symm hd)]
theorem Lj (α:Eff) (h:α.wt=[]) {env:Env}:α.env env=env:=by funext k;simp [Eff.env,h,A1]
theorem C9 (α:Eff) (h:α.wo=[]) {ob:Obs}:α.obs ob=ob:=by funext k;simp [Eff.obs,h,A1]
theorem OpJ.pure {o:Oper} {d:Nat} {nt:List (Nat×V)} {v:V} (hg:o.guard=none) (hd:o.dst=some d) (hN:d<B.N)
  (h:∀ (env:Env) (ob:Obs) (a:Act) (w:World) (σ:Nat->Option Nat) (Z:Nat->Prop),Sim B env ob a w σ Z->(∀ p∈nt,env p.1=some p.2) ->
   ∃ cv,(execOp a.eval o).run P w = .ok (.value cv) w∧D0 ob σ Z w cv v):OpJ P B ops o { nt,wt:=[(d,v)] }:=by
 intro Q env ob a w σ Z K s hn hK;obtain⟨cv,hr,hv⟩:=h env ob a w σ Z s hn.1;rw [if_pos (by simp [Region.wanted,hg])];unfold Oper.wp;rw [hr,Oper.upon_value,hd];refine hK _ _ σ Z ?_;rw [O8 _ rfl];exact s.put hN hv
theorem OpJ.move {d:Nat} {x:Operand} {ty:TypeId} {pos:String} {af:Array Edge} {v:V} {nt:List (Nat×V)} (hN:d<B.N) (hx:Opd x v nt) :
  OpJ P B ops ⟨some d,.move x,ty,pos,af,none⟩ { nt,wt:=[(d,v)] } :=
 OpJ.pure rfl rfl hN λenv ob a w σ Z s h=>⟨a.eval x,rfl,hx B env ob a w σ Z s h⟩
theorem OpJ.assign {d:Nat} {x:Operand} {ty:TypeId} {pos:String} {af:Array Edge} {v:V} {nt:List (Nat×V)} (hN:d<B.N) (hx:Opd x v nt) :
  OpJ P B ops ⟨some d,.assign x,ty,pos,af,none⟩ { nt,wt:=[(d,v)] } :=
 OpJ.pure rfl rfl hN λenv ob a w σ Z s h=>⟨a.eval x,rfl,hx B env ob a w σ Z s h⟩
section
variable {ob:Obs} {σ:Nat->Option Nat} {Z:Nat->Prop} {w:World} {v:Value}
theorem J5 {b:Bool} (h:D0 ob σ Z w v (.d (.bool b))):v = .bool b:=by simpa [D0,F3,V.isAgg,D.isAgg,V.rep,D.rep,Value.oneCell'] using And.left h
theorem E6 {k:IntKind} {n:Int} (h:D0 ob σ Z w v (.d (.int k n))):v = .int k n:=by
 have:[v]=[Value.int k n]:=And.left h;simpa using this
theorem P5 {s:List UInt8} (h:D0 ob σ Z w v (.d (.str s))):v = .string ⟨s.toArray⟩:=by
 have:[v]=[Value.string ⟨s.toArray⟩]:=And.left h;simpa using this
theorem H3 (b:Bool):D0 ob σ Z w (.bool b) (.d (.bool b)):=by simp [D0,F3,V.isAgg,D.isAgg,V.rep,D.rep,Value.oneCell']
theorem L8 (k:IntKind) (n:Int):D0 ob σ Z w (.int k n) (.d (.int k n)):=by simp [D0,F3,V.isAgg,D.isAgg,V.rep,D.rep,Value.oneCell']
theorem Cq (s:List UInt8):D0 ob σ Z w (.string ⟨s.toArray⟩) (.d (.str s)):=by simp [D0,F3,V.isAgg,D.isAgg,V.rep,D.rep,Value.oneCell']
theorem T9 (h:D0 ob σ Z w v .nils):v = .slice none 0 0:=by
 have:[v]=[Value.slice none 0 0]:=And.left h;simpa using this
end
variable {nt nt':List (Nat×V)}
theorem B4 {env:Env} (h:∀ p∈nt++nt',env p.1=some p.2):(∀ p∈nt,env p.1=some p.2)∧(∀ p∈nt',env p.1=some p.2) :=
 ⟨λp hp=>h p (List.mem_append_left _ hp),λp hp=>h p (List.mem_append_right _ hp)⟩
theorem OpJ.bin {d:Nat} {op:BinOp} {xt yt:TypeId} {x y:Operand} {ty:TypeId} {pos:String} {af:Array Edge} {k k':IntKind} {m n:Int} {v:V} (hN:d<B.N) (hx:Opd x (.d (.int k m)) nt) (hy:Opd y (.d (.int k' n)) nt') (cv:Value) (hr:∀ w,(binOp op xt (.int k m) (.int k' n)).run P w = .ok cv w) (hv:∀ ob σ Z w,D0 ob σ Z w cv v) :
  OpJ P B ops ⟨some d,.binOp op xt x y yt,ty,pos,af,none⟩ { nt:=nt++nt',wt:=[(d,v)] } :=
 OpJ.pure rfl rfl hN λenv ob a w σ Z s h=>by
  obtain⟨h1,h2⟩:=B4 h;have e1:=E6 (hx B env ob a w σ Z s h1);have e2:=E6 (hy B env ob a w σ Z s h2);refine⟨cv,?_,hv ob σ Z w⟩;have hgd:(eqGuard op xt x y (.int k m) (.int k' n)).run P w = .ok () w:=by unfold eqGuard;split<;>first | rfl | simp
  simp only [execOp,e1,e2,Sem.run_bind,hgd,Result.andThen_ok,hr];rfl
section
variable {d:Nat} {xt yt:TypeId} {x y:Operand} {ty:TypeId} {pos:String} {af:Array Edge} {k:IntKind} {m n:Int} {nt nt':List (Nat×V)}
variable {k':IntKind} {c:Operand}
theorem OpJ.add (hN:d<B.N) (hx:Opd x (.d (.int k m)) nt) (hy:Opd y (.d (.int k n)) nt') :
  OpJ P B ops ⟨some d,.binOp .add xt x y yt,ty,pos,af,none⟩ { nt:=nt++nt',wt:=[(d,.d (.int k (k.wrap (m+n))))] } :=
 OpJ.bin hN hx hy (.int k (k.wrap (m+n))) (λw=>by simp [binOp,Op.intArith]) λ_ _ _ _=>L8 _ _
theorem OpJ.sub (hN:d<B.N) (hx:Opd x (.d (.int k m)) nt) (hy:Opd y (.d (.int k n)) nt') :
  OpJ P B ops ⟨some d,.binOp .sub xt x y yt,ty,pos,af,none⟩ { nt:=nt++nt',wt:=[(d,.d (.int k (k.wrap (m-n))))] } :=
 OpJ.bin hN hx hy (.int k (k.wrap (m-n))) (λw=>by simp [binOp,Op.intArith]) λ_ _ _ _=>L8 _ _
theorem OpJ.mul (hN:d<B.N) (hx:Opd x (.d (.int k m)) nt) (hy:Opd y (.d (.int k n)) nt') :
  OpJ P B ops ⟨some d,.binOp .mul xt x y yt,ty,pos,af,none⟩ { nt:=nt++nt',wt:=[(d,.d (.int k (k.wrap (m*n))))] } :=
 OpJ.bin hN hx hy (.int k (k.wrap (m*n))) (λw=>by simp [binOp,Op.intArith]) λ_ _ _ _=>L8 _ _
theorem OpJ.quo (hN:d<B.N) (hx:Opd x (.d (.int k m)) nt) (hy:Opd y (.d (.int k n)) nt') (h0:n≠0) :
  OpJ P B ops ⟨some d,.binOp .quo xt x y yt,ty,pos,af,none⟩ { nt:=nt++nt',wt:=[(d,.d (.int k (k.wrap (m.tdiv n))))] } :=
 OpJ.bin hN hx hy (.int k (k.wrap (m.tdiv n))) (λw=>by simp [binOp,Op.intDiv,h0]) λ_ _ _ _=>L8 _ _
theorem OpJ.rem (hN:d<B.N) (hx:Opd x (.d (.int k m)) nt) (hy:Opd y (.d (.int k n)) nt') (h0:n≠0) :
  OpJ P B ops ⟨some d,.binOp .rem xt x y yt,ty,pos,af,none⟩ { nt:=nt++nt',wt:=[(d,.d (.int k (m.tmod n)))] } :=
 OpJ.bin hN hx hy (.int k (m.tmod n)) (λw=>by simp [binOp,Op.intDiv,h0]) λ_ _ _ _=>L8 _ _
theorem OpJ.eqlI (hN:d<B.N) (hx:Opd x (.d (.int k m)) nt) (hy:Opd y (.d (.int k n)) nt') :
  OpJ P B ops ⟨some d,.binOp .eql xt x y yt,ty,pos,af,none⟩ { nt:=nt++nt',wt:=[(d,.d (.bool (m==n)))] } :=
 OpJ.bin hN hx hy (.bool (m==n)) (λw=>by simp [binOp,Op.intCmp]) λ_ _ _ _=>H3 _
theorem OpJ.neqI (hN:d<B.N) (hx:Opd x (.d (.int k m)) nt) (hy:Opd y (.d (.int k n)) nt') :
  OpJ P B ops ⟨some d,.binOp .neq xt x y yt,ty,pos,af,none⟩ { nt:=nt++nt',wt:=[(d,.d (.bool (m != n)))] } :=
 OpJ.bin hN hx hy (.bool (m != n)) (λw=>by simp [binOp,Op.intCmp]) λ_ _ _ _=>H3 _
theorem OpJ.lss (hN:d<B.N) (hx:Opd x (.d (.int k m)) nt) (hy:Opd y (.d (.int k n)) nt') :
  OpJ P B ops ⟨some d,.binOp .lss xt x y yt,ty,pos,af,none⟩ { nt:=nt++nt',wt:=[(d,.d (.bool (decide (m<n))))] } :=
 OpJ.bin hN hx hy (.bool (decide (m<n))) (λw=>by simp [binOp,Op.intCmp]) λ_ _ _ _=>H3 _
theorem OpJ.leq (hN:d<B.N) (hx:Opd x (.d (.int k m)) nt) (hy:Opd y (.d (.int k n)) nt') :
  OpJ P B ops ⟨some d,.binOp .leq xt x y yt,ty,pos,af,none⟩ { nt:=nt++nt',wt:=[(d,.d (.bool (decide (m<=n))))] } :=
 OpJ.bin hN hx hy (.bool (decide (m<=n))) (λw=>by simp [binOp,Op.intCmp]) λ_ _ _ _=>H3 _
theorem OpJ.gtr (hN:d<B.N) (hx:Opd x (.d (.int k m)) nt) (hy:Opd y (.d (.int k n)) nt') :
  OpJ P B ops ⟨some d,.binOp .gtr xt x y yt,ty,pos,af,none⟩ { nt:=nt++nt',wt:=[(d,.d (.bool (decide (n<m))))] } :=
 OpJ.bin hN hx hy (.bool (decide (n<m))) (λw=>by simp [binOp,Op.intCmp]) λ_ _ _ _=>H3 _
theorem OpJ.geq (hN:d<B.N) (hx:Opd x (.d (.int k m)) nt) (hy:Opd y (.d (.int k n)) nt') :
  OpJ P B ops ⟨some d,.binOp .geq xt x y yt,ty,pos,af,none⟩ { nt:=nt++nt',wt:=[(d,.d (.bool (decide (n<=m))))] } :=
 OpJ.bin hN hx hy (.bool (decide (n<=m))) (λw=>by simp [binOp,Op.intCmp]) λ_ _ _ _=>H3 _
def G8 (op:BinOp) (k:IntKind) (m n:Int):Int :=
 let a:=BitVec.ofInt k.bits m
 let b:=BitVec.ofInt k.bits n
 match op with
 | .and=>k.wrap (a &&& b).toNat
 | .or=>k.wrap (a ||| b).toNat
 | .xor=>k.wrap (a ^^^ b).toNat
 | _=>k.wrap (a &&& ~~~b).toNat
theorem OpJ.bits {op:BinOp} (hop:op = .and∨op = .or∨op = .xor∨op = .andNot) (hN:d<B.N) (hx:Opd x (.d (.int k m)) nt) (hy:Opd y (.d (.int k n)) nt') :
  OpJ P B ops ⟨some d,.binOp op xt x y yt,ty,pos,af,none⟩ { nt:=nt++nt',wt:=[(d,.d (.int k (G8 op k m n)))] } :=
 OpJ.bin hN hx hy (.int k (G8 op k m n)) (λw=>by rcases hop with rfl | rfl | rfl | rfl<;>simp [binOp,Op.intBits,G8]) λ_ _ _ _=>L8 _ _
def X6 (k:IntKind) (m n:Int):Int:=k.wrap (m*2 ^ (min n.toNat k.bits))
def H5 (k:IntKind) (m n:Int):Int:=m.fdiv (2 ^ (min n.toNat k.bits))
theorem OpJ.shl (hN:d<B.N) (hx:Opd x (.d (.int k m)) nt) (hy:Opd y (.d (.int k' n)) nt') (h0:0<=n) :
  OpJ P B ops ⟨some d,.binOp .shl xt x y yt,ty,pos,af,none⟩ { nt:=nt++nt',wt:=[(d,.d (.int k (X6 k m n)))] } :=
 OpJ.bin hN hx hy (.int k (X6 k m n)) (λw=>by simp [binOp,Op.shift,X6,show ¬ n<0 from by omega]) λ_ _ _ _=>L8 _ _
theorem OpJ.shr (hN:d<B.N) (hx:Opd x (.d (.int k m)) nt) (hy:Opd y (.d (.int k' n)) nt') (h0:0<=n) :
  OpJ P B ops ⟨some d,.binOp .shr xt x y yt,ty,pos,af,none⟩ { nt:=nt++nt',wt:=[(d,.d (.int k (H5 k m n)))] } :=
 OpJ.bin hN hx hy (.int k (H5 k m n)) (λw=>by simp [binOp,Op.shift,H5,show ¬ n<0 from by omega]) λ_ _ _ _=>L8 _ _
theorem OpJ.not {b:Bool} (hN:d<B.N) (hx:Opd x (.d (.bool b)) nt) :
  OpJ P B ops ⟨some d,.unOp .not xt x,ty,pos,af,none⟩ { nt,wt:=[(d,.d (.bool (!b)))] } :=
 OpJ.pure rfl rfl hN λenv ob a w σ Z s h=>⟨.bool (!b),by simp [execOp,J5 (hx B env ob a w σ Z s h),Op.unary],H3 _⟩
theorem OpJ.neg (hN:d<B.N) (hx:Opd x (.d (.int k m)) nt) :
  OpJ P B ops ⟨some d,.unOp .neg xt x,ty,pos,af,none⟩ { nt,wt:=[(d,.d (.int k (k.wrap (0-m))))] } :=
 OpJ.pure rfl rfl hN λenv ob a w σ Z s h=>⟨.int k (k.wrap (0-m)),by simp [execOp,E6 (hx B env ob a w σ Z s h),Op.unary,Op.intArith],L8 _ _⟩
theorem OpJ.inv (hN:d<B.N) (hx:Opd x (.d (.int k m)) nt) :
  OpJ P B ops ⟨some d,.unOp .xor xt x,ty,pos,af,none⟩ { nt,wt:=[(d,.d (.int k (G8 .xor k (if k.signed then -1 else k.max) m)))] } :=
 OpJ.pure rfl rfl hN λenv ob a w σ Z s h=>⟨.int k (G8 .xor k (if k.signed then -1 else k.max) m),by simp [execOp,E6 (hx B env ob a w σ Z s h),Op.unary,Op.intBits,G8],L8 _ _⟩
theorem OpJ.conv {sd:TypeId} {sx:TypeDesc} (hu:P.underlying xt=some sx) (hs:P.underlying sd=some (.int k')) (hN:d<B.N) (hx:Opd x (.d (.int k m)) nt) :
  OpJ P B ops ⟨some d,.convert xt sd x,ty,pos,af,none⟩ { nt,wt:=[(d,.d (.int k' (k'.wrap m)))] } :=
 OpJ.pure rfl rfl hN λenv ob a w σ Z s h=>⟨.int k' (k'.wrap m),by simp [execOp,E6 (hx B env ob a w σ Z s h),convert,run_underlying hu,run_underlying hs,Conv.intToInt],L8 _ _⟩
theorem OpJ.pickT {v:V} (hN:d<B.N) (hc:Opd c (.d (.bool true)) nt) (hx:Opd x v nt') :
  OpJ P B ops ⟨some d,.pick c x y,ty,pos,af,none⟩ { nt:=nt++nt',wt:=[(d,v)] } :=
 OpJ.pure rfl rfl hN λenv ob a w σ Z s h=>by
  obtain⟨h1,h2⟩:=B4 h;exact⟨a.eval x,by simp [execOp,J5 (hc B env ob a w σ Z s h1),asBool],hx B env ob a w σ Z s h2⟩
theorem OpJ.pickF {v:V} (hN:d<B.N) (hc:Opd c (.d (.bool false)) nt) (hy:Opd y v nt') :
  OpJ P B ops ⟨some d,.pick c x y,ty,pos,af,none⟩ { nt:=nt++nt',wt:=[(d,v)] } :=
 OpJ.pure rfl rfl hN λenv ob a w σ Z s h=>by
  obtain⟨h1,h2⟩:=B4 h;exact⟨a.eval y,by simp [execOp,J5 (hc B env ob a w σ Z s h1),asBool],hy B env ob a w σ Z s h2⟩
end
variable {af:Array Edge} {want:Bool} {g:Nat} {pos:String} {ty:TypeId}
theorem OpJ.guarded {d:Option Nat} {op:Op} {α:Eff} {j:Nat} (hg:(ops[j]?).bind (·.dst)=some g) (h:OpJ P B ops ⟨d,op,ty,pos,af,none⟩ α):OpJ P B ops ⟨d,op,ty,pos,af,some (j,want)⟩ { α with nt:=(g,.d (.bool want)) :: α.nt }:=by
 intro Q env ob a w σ Z K s hn hK;have hnn:α.needs env ob:=⟨λp hp=>hn.1 p (List.mem_cons_of_mem _ hp),hn.2⟩;have:=h Q env ob a w σ Z K s hnn hK;rw [if_pos (by simp [Region.wanted])] at this;obtain⟨cv,h1,h2⟩:=s.env g _ (hn.1 (g,.d (.bool want)) (List.mem_cons_self ..));have hcv:=J5 h2;subst hcv;rw [if_pos (by simp [Region.wanted,yielded,hg,h1])];exact this
theorem OpJ.skip {d:Nat} {op:Op} {j:Nat} (hN:d<B.N) (hg:(ops[j]?).bind (·.dst)=some g) :
  OpJ P B ops ⟨some d,op,ty,pos,af,some (j,want)⟩ { nt:=[(g,.d (.bool (!want)))],wt:=[(d,.junk)] }:=by
 intro Q env ob a w σ Z K s hn hK;obtain⟨cv,h1,h2⟩:=s.env g _ (hn.1 (g,.d (.bool (!want))) (List.mem_cons_self ..));have hcv:=J5 h2;subst hcv;rw [if_neg (by simp [Region.wanted,yielded,hg,h1])];refine hK _ _ σ Z ?_;rw [O8 _ rfl];exact s.put hN (D0.junk _)
theorem OpJ.skip0 {op:Op} {j:Nat} (hg:(ops[j]?).bind (·.dst)=some g) :
  OpJ P B ops ⟨none,op,ty,pos,af,some (j,want)⟩ { nt:=[(g,.d (.bool (!want)))] }:=by
 intro Q env ob a w σ Z K s hn hK;obtain⟨cv,h1,h2⟩:=s.env g _ (hn.1 (g,.d (.bool (!want))) (List.mem_cons_self ..));have hcv:=J5 h2;subst hcv;rw [if_neg (by simp [Region.wanted,yielded,hg,h1])];exact hK _ _ σ Z s
end Go.Vc
namespace Go.Vc
open Go
variable {P:Program} {B:D5} {ops:Array Oper}
variable {ag:Bool} {n t:Nat}
theorem K6 (b o j:Nat):(⟨b,o,none⟩:Addr).add j=⟨b,o+j,none⟩:=by unfold Addr.add;split<;>simp_all
def Av:TypeDesc->Bool
 | .struct _ | .array _ _=>true
 | _=>false
structure TyS (P:Program) (t:TypeId) (n:Nat) (ag:Bool):Prop where
 size:(P.info? t).map (·.size)=some n
 agg:(P.underlying t).map Av=some ag
theorem TyS.run_size (h:TyS P t n ag) (w:World):(sizeOf t).run P w = .ok n w:=by
 have:=h.size;cases hi:P.info? t with
 | none=>simp [hi] at this
 | some i=>simp [hi] at this;simp [sizeOf,typeInfo,hi,this]
theorem TyS.run_agg (h:TyS P t n ag) (w:World):(isAgg t).run P w = .ok ag w:=by
 have:=h.agg;cases hu:P.underlying t with
 | none=>simp [hu] at this
 | some d =>
  simp [hu] at this;unfold isAgg;rw [Sem.run_bind,run_underlying hu w];cases d<;>simp_all [Av]
def D3 (ag:Bool) (cs:List Value):Value:=if ag then .agg cs.toArray else cs.headD undef
theorem K7 (h:TyS P t n ag) {w:World} {b o:Nat} {cs:List Value} (hc:G6 w b o cs) (hl:cs.length=n) (h1:ag=false->n=1) :
  (loadVar t ⟨b,o,none⟩).run P w = .ok (D3 ag cs) w:=by
 unfold loadVar;rw [Sem.run_bind,h.run_agg w];cases ag with
 | true =>
  have hlc:=run_loadCells_list (P:=P) w ⟨b,o,none⟩ cs (λj v hj=>by rw [K6];exact hc j v hj);subst hl;simp [h.run_size,hlc,D3]
 | false =>
  have:=h1 rfl
  match cs,hl.trans this with
  | [c],_ =>
   have h0:=hc 0 c rfl;simp only [Nat.add_zero] at h0;simp [D3,load,Sem.run,h0]
theorem X4 {t n:Nat} {ag:Bool} (h:TyS P t n ag) {w:World} {b o e:Nat} {cur:Array Value} {v:Value} (hb:w.heap[b]? = some (.cells cur e (0,0))) (hl:v.cells.size=n)
  (hfit:o+n<=cur.size) (h1:∀ u∈v.cells.toList,u.oneCell'=true) :
  (storeVar t ⟨b,o,none⟩ v).run P w = .ok () (w.setRow b (cur.toList.take o++v.cells.toList++cur.toList.drop (o+n)).toArray):=by
 unfold storeVar;rw [Sem.run_bind,h.run_size w];have:=run_storeCells_at (P:=P) b o e v.cells.toList 0 cur w hb (by simpa [hl] using hfit) h1;simp only [Result.andThen_ok,hl,ne_eq,not_true_eq_false,if_false];simpa [hl] using this
theorem Fu (w:World) (b:Nat) (cs:Array Value) (k:Nat) (h:k≠b):(w.setRow b cs).heap[k]? = w.heap[k]? :=setRow_other w b k cs h
inductive At:V->List Nat->Nat->V->Prop
 | here (x:V):At x [] 0 x
 | st {fs:List V} {i:Nat} {p:List Nat} {o off:Nat} {f y:V}:fs[i]? = some f->V.szL (fs.take i)=o->At f p off y->At (.st fs) (i :: p) (o+off) y
 | dst {fs:List D} {i:Nat} {p:List Nat} {o off:Nat} {f:D} {y:V}:fs[i]? = some f->D.szL (fs.take i)=o->At (.d f) p off y->At (.d (.st fs)) (i :: p) (o+off) y
 | arr {n sz:Nat} {es:List D} {i:Nat} {p:List Nat} {off:Nat} {e:D} {y:V}:es[i]? = some e->At (.d e) p off y->At (.d (.arr n sz es)) (i :: p) (i*sz+off) y
section
variable {ob:Obs} {σ:Nat->Option Nat} {Z:Nat->Prop} {w:World}
theorem Y8:∀ {fs:List V} {cs:List Value} {i:Nat} {f:V},V.repS ob σ Z w fs cs->fs[i]? = some f ->
  ∃ c1 c2 c3,cs=c1++c2++c3∧c1.length=V.szL (fs.take i)∧c2.length=f.sz∧V.rep ob σ Z w f c2 ∧
   (∀ g new,new.length=f.sz->g.sz=f.sz->(∀ u∈new,u.oneCell'=true)->V.rep ob σ Z w g new->V.repS ob σ Z w (fs.set i g) (c1++new++c3))
 | [],_,_,_,_,h=>by simp at h
 | x :: fs,cs,0,f,h,hi=>by
  obtain⟨c1,c2,h1,h2,h3,h4,h5⟩:=h;simp at hi;subst hi;exact⟨[],c1,c2,by simp [h1],rfl,h2,h4,λg new hl hg hone hr=>⟨new,c2,by simp,hl.trans hg.symm,hone,hr,h5⟩⟩
 | x :: fs,cs,i+1,f,h,hi=>by
  obtain⟨c1,c2,h1,h2,h3,h4,h5⟩:=h;obtain⟨d1,d2,d3,g1,g2,g3,g4,g5⟩:=Y8 h5 (by simpa using hi:fs[i]? = some f);subst h1;subst g1;refine⟨c1++d1,d2,d3,by simp,by simp [V.szL,h2,g2],g3,g4,λg new hl hg hone hr => ?_⟩;rw [List.set_cons_succ];exact⟨c1,d1++new++d3,by simp,h2,h3,h4,g5 g new hl hg hone hr⟩
theorem I5:∀ {fs:List D} {cs:List Value} {i:Nat} {f:D},D.repL Z w fs cs->fs[i]? = some f ->
  ∃ c1 c2 c3,cs=c1++c2++c3∧c1.length=D.szL (fs.take i)∧c2.length=f.sz∧D.rep Z w f c2 ∧
   (∀ g new,D.rep Z w g new->D.repL Z w (fs.set i g) (c1++new++c3))
 | [],_,_,_,_,h=>by simp at h
 | x :: fs,cs,0,f,h,hi=>by
  obtain⟨c1,c2,h1,h2,h3⟩:=h;simp at hi;subst hi;exact⟨[],c1,c2,by simp [h1],rfl,D.rep_len _ _ h2,h2,λg new hr=>⟨new,c2,by simp,hr,h3⟩⟩
 | x :: fs,cs,i+1,f,h,hi=>by
  obtain⟨c1,c2,h1,h2,h3⟩:=h;obtain⟨d1,d2,d3,g1,g2,g3,g4,g5⟩:=I5 h3 (by simpa using hi:fs[i]? = some f);subst h1;subst g1;refine⟨c1++d1,d2,d3,by simp,by simp [D.szL,D.rep_len _ _ h2,g2],g3,g4,λg new hr => ?_⟩;rw [List.set_cons_succ];exact⟨c1,d1++new++d3,by simp,h2,g5 g new hr⟩
theorem At.cells {x:V} {p:List Nat} {off:Nat} {y:V} (h:At x p off y):∀ {cs:List Value},V.rep ob σ Z w x cs->cs.length=x.sz ->
  ∃ c1 c2 c3,cs=c1++c2++c3∧c1.length=off∧c2.length=y.sz∧V.rep ob σ Z w y c2:=by
 induction h with
 | here x=>intro cs hr hl;exact⟨[],cs,[],by simp,rfl,hl,hr⟩
 | st hf ho _ ih =>
  intro cs hr hl;obtain⟨c1,c2,c3,h1,h2,h3,h4,_⟩:=Y8 hr hf;obtain⟨d1,d2,d3,g1,g2,g3,g4⟩:=ih h4 h3;subst h1;subst g1;exact⟨c1++d1,d2,d3++c3,by simp,by simp [h2,ho,g2],g3,g4⟩
 | dst hf ho _ ih =>
  intro cs hr hl;obtain⟨c1,c2,c3,h1,h2,h3,h4,_⟩:=I5 hr hf;obtain⟨d1,d2,d3,g1,g2,g3,g4⟩:=ih (cs:=c2) h4 h3;subst h1;subst g1;exact⟨c1++d1,d2,d3++c3,by simp,by simp [h2,ho,g2],g3,g4⟩
 | @arr n sz es i p off e y hf _ ih =>
  intro cs hr hl;obtain⟨hlen,hsz,hr⟩:=hr;obtain⟨c1,c2,c3,h1,h2,h3,h4,_⟩:=I5 hr hf;obtain⟨d1,d2,d3,g1,g2,g3,g4⟩:=ih (cs:=c2) h4 h3;subst h1;subst g1;have hi:i<es.length:=(List.getElem?_eq_some_iff.1 hf).1;have:D.szL (es.take i)=i*sz:=by rw [D.szL_all _ (λx hx=>hsz x (List.mem_of_mem_take hx)),List.length_take,Nat.min_eq_left (by omega)]
  exact⟨c1++d1,d2,d3++c3,by simp,by simp [h2,this,g2],g3,g4⟩
inductive L6:V->List Nat->Nat->V->V->Prop
 | here (x y:V):L6 x [] 0 y y
 | st {fs:List V} {i:Nat} {p:List Nat} {o off:Nat} {f y f':V}:fs[i]? = some f->V.szL (fs.take i)=o->L6 f p off y f'->f'.sz=f.sz->L6 (.st fs) (i :: p) (o+off) y (.st (fs.set i f'))
 | dst {fs:List D} {i:Nat} {p:List Nat} {o off:Nat} {f:D} {y:V} {f':D}:fs[i]? = some f->D.szL (fs.take i)=o->L6 (.d f) p off y (.d f')->f'.sz=f.sz->L6 (.d (.st fs)) (i :: p) (o+off) y (.d (.st (fs.set i f')))
 | arr {n sz:Nat} {es:List D} {i:Nat} {p:List Nat} {off:Nat} {e:D} {y:V} {e':D}:es[i]? = some e->L6 (.d e) p off y (.d e')->e'.sz=e.sz->L6 (.d (.arr n sz es)) (i :: p) (i*sz+off) y (.d (.arr n sz (es.set i e')))
 | lift {fs:List D} {p:List Nat} {off:Nat} {y z:V}:L6 (.st (fs.map .d)) p off y z->L6 (.d (.st fs)) p off y z
theorem V5:∀ {fs:List D} {cs:List Value},D.repL Z w fs cs->V.repS ob σ Z w (fs.map .d) cs
 | [],_,h=>h
 | f :: fs,cs,h=>by
  obtain⟨c1,c2,h1,h2,h3⟩:=h;exact⟨c1,c2,h1,D.rep_len _ _ h2,D.rep_one _ _ h2,h2,V5 h3⟩
theorem N2:∀ (fs:List D),V.szL (fs.map .d)=D.szL fs
 | []=>rfl
 | f :: fs=>by simp [V.szL,D.szL,V.sz,N2 fs]
theorem A1n:∀ {fs:List V} {i:Nat} {f g:V},fs[i]? = some f->g.sz=f.sz->V.szL (fs.set i g)=V.szL fs
 | [],_,_,_,h,_=>by simp at h
 | x :: fs,0,f,g,h,hg=>by simp at h;subst h;simp [V.szL,hg]
 | x :: fs,i+1,f,g,h,hg=>by simp only [List.set_cons_succ,V.szL];rw [A1n (by simpa using h) hg]
theorem L6.cells {x:V} {p:List Nat} {off:Nat} {y z:V} (h:L6 x p off y z):∀ {cs new:List Value},V.rep ob σ Z w x cs->cs.length=x.sz->V.rep ob σ Z w y new->new.length=y.sz->(∀ u∈new,u.oneCell'=true)->z.sz=x.sz->(∀ u∈cs,u.oneCell'=true) ->
  V.rep ob σ Z w z (cs.take off++new++cs.drop (off+new.length))∧off+new.length<=cs.length:=by
 induction h with
 | here x y =>
  intro cs new hr hl hy hn h1 hz _;have:cs.drop (0+new.length)=[]:=List.drop_eq_nil_of_le (by omega);rw [this];exact⟨by simpa using hy,by omega⟩
 | @st fs i p o off f y f' hf ho _ hsz ih =>
  intro cs new hr hl hy hn h1 hz hone;obtain⟨c1,c2,c3,e1,e2,e3,e4,e5⟩:=Y8 hr hf;subst e1;have ho1:∀ u∈c2,u.oneCell'=true:=λu hu=>hone u (by simp [hu]);obtain⟨g1,g2⟩:=ih e4 e3 hy hn h1 hsz ho1;have hlen:(c2.take off++new++c2.drop (off+new.length)).length=f.sz:=by simp;omega
  have:=e5 f' _ hlen hsz (λu hu=>by
   rcases List.mem_append.1 hu with hu | hu
   ·rcases List.mem_append.1 hu with hu | hu
    ·exact ho1 u (List.mem_of_mem_take hu)
    ·exact h1 u hu
   ·exact ho1 u (List.mem_of_mem_drop hu)) g1
  have hc1:c1.length=o:=by omega
  refine⟨?_,by simp;omega⟩;have e:(c1++c2++c3).take (o+off)++new++(c1++c2++c3).drop (o+off+new.length)=c1++(c2.take off++new++c2.drop (off+new.length))++c3:=by
   rw [<- hc1,List.append_assoc c1 c2 c3,List.take_length_add_append,List.take_append_of_le_length (by omega),Nat.add_assoc,List.drop_length_add_append,List.drop_append_of_le_length (by omega)];simp
  rw [e];exact this
 | @dst fs i p o off f y f' hf ho _ hsz ih =>
  intro cs new hr hl hy hn h1 hz hone;obtain⟨c1,c2,c3,e1,e2,e3,e4,e5⟩:=I5 hr hf;subst e1;have ho1:∀ u∈c2,u.oneCell'=true:=λu hu=>hone u (by simp [hu]);obtain⟨g1,g2⟩:=ih (cs:=c2) e4 e3 hy hn h1 hsz ho1;have hc1:c1.length=o:=by omega
  refine⟨?_,by simp;omega⟩;have e:(c1++c2++c3).take (o+off)++new++(c1++c2++c3).drop (o+off+new.length)=c1++(c2.take off++new++c2.drop (off+new.length))++c3:=by
   rw [<- hc1,List.append_assoc c1 c2 c3,List.take_length_add_append,List.take_append_of_le_length (by omega),Nat.add_assoc,List.drop_length_add_append,List.drop_append_of_le_length (by omega)];simp
  rw [e];exact e5 f' _ g1
 | @arr n sz es i p off e y e' hf _ hsz ih =>
  intro cs new hr hl hy hn h1 hz hone;obtain⟨hlen,hszs,hr⟩:=hr;obtain⟨c1,c2,c3,e1,e2,e3,e4,e5⟩:=I5 hr hf;subst e1;have ho1:∀ u∈c2,u.oneCell'=true:=λu hu=>hone u (by simp [hu]);obtain⟨g1,g2⟩:=ih (cs:=c2) e4 e3 hy hn h1 hsz ho1;have hi:i<es.length:=(List.getElem?_eq_some_iff.1 hf).1;have hc1:c1.length=i*sz:=by rw [e2,D.szL_all _ (λx hx=>hszs x (List.mem_of_mem_take hx)),List.length_take,Nat.min_eq_left (by omega)]
  refine⟨?_,by simp;omega⟩;have ee:(c1++c2++c3).take (i*sz+off)++new++(c1++c2++c3).drop (i*sz+off+new.length)=c1++(c2.take off++new++c2.drop (off+new.length))++c3:=by
   rw [<- hc1,List.append_assoc c1 c2 c3,List.take_length_add_append,List.take_append_of_le_length (by omega),Nat.add_assoc,List.drop_length_add_append,List.drop_append_of_le_length (by omega)];simp
  rw [ee];refine⟨by simpa using hlen,λx hx => ?_,e5 e' _ g1⟩;rcases List.mem_or_eq_of_mem_set hx with hx | hx
  ·exact hszs x hx
  ·subst hx;rw [hsz];exact hszs e (List.mem_of_getElem? hf)
 | lift _ ih =>
  intro cs new hr hl hy hn h1 hz hone;exact ih (V5 hr) (by rw [hl];simp [V.sz,D.sz,N2]) hy hn h1 (by rw [hz];simp [V.sz,D.sz,N2]) hone
theorem F3.cells {v:Value} {x:V} (h:F3 ob σ Z w v x) (hj:x ≠ .junk):V.rep ob σ Z w x v.cells.toList∧(x.isAgg=false->v.cells = #[v]∧v.oneCell'=true):=by
 unfold F3 at h
 by_cases hx:x.isAgg=true
 ·rw [if_pos hx] at h;obtain⟨cs,h1,h2⟩:=h;subst h1;exact⟨by simpa [Value.cells] using h2,λe=>by rw [e] at hx;cases hx⟩
 ·rw [if_neg hx] at h;rcases h.2 with h1 | h1
  ·exact absurd h1 hj
  have hc:v.cells = #[v]:=by cases v<;>first | rfl | simp [Value.oneCell'] at h1
  exact⟨by rw [hc];exact h.1,λ_=>⟨hc,h1⟩⟩
theorem V.rep_len:∀ (x:V) (cs:List Value),V.rep ob σ Z w x cs->x.isAgg=true->cs.length=x.sz∧∀ u∈cs,u.oneCell'=true
 | .st fs,cs,h,_=>by
  have:∀ (fs:List V) (cs:List Value),V.repS ob σ Z w fs cs->cs.length=V.szL fs∧∀ u∈cs,u.oneCell'=true:=by
   intro fs;induction fs with
   | nil=>intro cs h;cases h;simp [V.szL]
   | cons f fs ih =>
    intro cs h;obtain⟨c1,c2,h1,h2,h3,_,h5⟩:=h;subst h1;obtain⟨g1,g2⟩:=ih c2 h5;refine⟨by simp [V.szL,h2,g1],λu hu => ?_⟩;rcases List.mem_append.1 hu with hu | hu
    ·exact h3 u hu
    ·exact g2 u hu
  exact this fs cs h
 | .d x,cs,h,_=>⟨D.rep_len x cs h,D.rep_one x cs h⟩
 | .junk,_,_,h=>by simp [V.isAgg] at h
 | .nils,_,_,h=>by simp [V.isAgg] at h
 | .ptr ..,_,_,h=>by simp [V.isAgg] at h
 | .dptr _,_,_,h=>by simp [V.isAgg] at h
 | .sref ..,_,_,h=>by simp [V.isAgg] at h
 | .func ..,_,_,h=>by simp [V.isAgg] at h
 | .tup _,_,_,h=>by simp [V.isAgg] at h
 | .opt ..,_,_,h=>by simp [V.isAgg] at h
 | .mref _,_,_,h=>by simp [V.isAgg] at h
 | .full ..,_,_,h=>by simp [V.isAgg] at h
theorem D.sz_one {x:D} (h:x.isAgg=false):x.sz=1:=by cases x<;>simp_all [D.sz,D.isAgg]
theorem V.sz_one {x:V} (h:x.isAgg=false):x.sz=1:=by
 cases x with
 | d y=>exact D.sz_one h
 | st fs=>simp [V.isAgg] at h
 | _=>rfl
theorem F3.full {v:Value} {x:V} (h:F3 ob σ Z w v x) (hj:x ≠ .junk):V.rep ob σ Z w x v.cells.toList∧v.cells.size=x.sz∧(∀ u∈v.cells.toList,u.oneCell'=true):=by
 obtain⟨h1,h2⟩:=h.cells hj;cases hx:x.isAgg with
 | true =>
  obtain⟨g1,g2⟩:=V.rep_len x _ h1 hx;exact⟨h1,by simpa using g1,g2⟩
 | false =>
  obtain⟨g1,g2⟩:=h2 hx;refine⟨h1,?_,?_⟩
  ·rw [g1];simp [V.sz_one hx]
  ·rw [g1];simpa using g2
theorem F3.of_cells {x:V} {cs:List Value} (h:V.rep ob σ Z w x cs) (hl:cs.length=x.sz) (h1:∀ u∈cs,u.oneCell'=true) (ag:Bool) (hag:x.isAgg=ag):F3 ob σ Z w (D3 ag cs) x:=by
 subst hag;unfold F3 D3;cases hx:x.isAgg with
 | true=>simp only [if_true];exact⟨cs,rfl,h⟩
 | false =>
  match cs,hl.trans (V.sz_one hx) with
  | [c],_=>simpa using ⟨h,.inr (h1 c (by simp))⟩
end
end Go.Vc
namespace Go.Vc
open Go
variable {P:Program} {B:D5} {ops:Array Oper}
variable {n:Nat} {ob:Obs} {x:Option Ob}
def B9 (ob:Obs) (n:Nat) (x:Option Ob):Obs:=λm=>if m=n then some x else ob m
def G3 (σ:Nat->Option Nat) (n:Nat) (x:Option Nat):Nat->Option Nat:=λm=>if m=n then x else σ m
theorem F1 (α:Eff) (h:α.wo=[(n,x)]):α.obs ob=B9 ob n x:=by
 funext k;simp only [Eff.obs,h,Ft,B9]
 by_cases hd:n=k
 ·subst hd;simp
 ·rw [if_neg hd,if_neg (Ne.symm hd)]
theorem Cr {m:Nat} {y:Option Ob} (α:Eff) (h:α.wo=[(m,y),(n,x)]):α.obs ob=B9 (B9 ob n x) m y:=by
 funext k;simp only [Eff.obs,h,A4 m,Ft,B9]
 by_cases hd:m=k
 ·subst hd;simp
 ·rw [if_neg hd,if_neg (Ne.symm hd)]
  by_cases hd:n=k
  ·subst hd;simp
  ·rw [if_neg hd,if_neg (Ne.symm hd)]
def D5.ok (B:D5):Prop:=∀ n b,B.pin n=some b->n<1000
section
variable {env:Env} {ob:Obs} {a:Act} {w:World} {σ:Nat->Option Nat} {Z:Nat->Prop}
variable {cur new:Array Value} {b m:Nat} {o':Ob}
theorem C1:live (B9 ob n x) m↔if m=n then x.isSome=true else live ob m:=by
 unfold live B9
 by_cases h:m=n
 ·simp only [h,if_true,Option.some.injEq];cases x<;>simp
 ·simp [h]
theorem S4 (h:used ob m):used (B9 ob n x) m:=by
 unfold used B9 at *
 by_cases e:m=n
 ·simp [e]
 ·simpa [e] using h
theorem Sim.lt (s:Sim B env ob a w σ Z) {n b:Nat} (hl:live ob n) (hb:σ n=some b):b<w.heap.size:=by
 obtain⟨o,h⟩:=hl;exact Ob.lt (s.obj n o h) hb
theorem Ob.rep_move {ob':Obs} {σ':Nat->Option Nat} {Z':Nat->Prop} {w':World} (m:K4 ob ob' σ σ' Z Z' w w') {n:Nat} {o:Ob} (h:o.rep ob σ Z w n) (hs:σ' n=σ n)
  (hb:∀ b,σ n=some b->w'.heap[b]? = w.heap[b]?):o.rep ob' σ' Z' w' n:=by
 cases o with
 | box t x =>
  obtain⟨b,cs,h1,h2,h3,h4,h5⟩:=h;exact⟨b,cs,hs.trans h1,(hb b h1).trans h2,h3,h4,V.rep_move m x _ h5⟩
 | row e sz es =>
  obtain⟨h0,h00,v,xs,h1,h2,h3,h4⟩:=h;refine⟨h0,h00,v,xs,?_,D.repL_ext m.ext es xs h2,h3.trans hs.symm,λhn=>h4 (hs.symm.trans hn)⟩;obtain⟨g1,g2⟩:=h1;refine⟨g1,?_⟩;rcases g2 with g2 | ⟨g,cap,cur,k1,k2,k3,k4⟩
  ·exact .inl g2
  ·refine .inr ⟨g,cap,cur,k1,k2,?_,k4⟩;rw [hb g (by rw [<- h3,k1];rfl)];exact k3
 | blk s =>
  obtain⟨b,h1,h2⟩:=h;exact⟨b,hs.trans h1,s.move m.ext (hb b h1) h2⟩
 | know k=>exact⟨hs.trans h.1,k.move m.ext h.2⟩
 | vrow e sz fs =>
  obtain⟨h0,h00,v,xs,h1,h1',h2,h3,h4⟩:=h;refine⟨h0,h00,v,xs,?_,h1',V.repS_move m fs xs h2,h3.trans hs.symm,λhn=>h4 (hs.symm.trans hn)⟩;obtain⟨g1,g2⟩:=h1;refine⟨g1,?_⟩;rcases g2 with g2 | ⟨g,cap,cur,k1,k2,k3,k4⟩
  ·exact .inl g2
  ·refine .inr ⟨g,cap,cur,k1,k2,?_,k4⟩;rw [hb g (by rw [<- h3,k1];rfl)];exact k3
 | reg r =>
  intro b hσ;have:=hb b (hs.symm.trans hσ);have hlt:=h b (hs.symm.trans hσ);rw [Array.getElem?_eq_getElem hlt] at this;exact(Array.getElem?_eq_some_iff.1 this).1
theorem Sim.newObjF (s:Sim B env ob a w σ Z) (hB:B.ok) {nm:Nat} (hn:ob nm=none) (h1000:1000<=nm) {o:Ob} {c:Obj} (ho:∀ ob' σ',K4 ob ob' σ σ' Z Z w (w.alloc c)->σ' nm=some w.heap.size->o.rep ob' σ' Z (w.alloc c) nm) (hF:Ag B.w0.heap.size B.own (B9 ob nm (some o)) (G3 σ nm (some w.heap.size)) Z (w.alloc c)) :
  Sim B env (B9 ob nm (some o)) a (w.alloc c) (G3 σ nm (some w.heap.size)) Z:=by
 have hne:∀ n,used ob n->n≠nm:=λn hu e=>hu (e ▸ hn);have hold:∀ k,k<w.heap.size->(w.alloc c).heap[k]? = w.heap[k]? :=λk hk=>Go.RowKit.Below.heap_alloc w c k hk;have m:K4 ob (B9 ob nm (some o)) σ (G3 σ nm (some w.heap.size)) Z Z w (w.alloc c):=by
  refine⟨⟨λ_ h=>h,λb h=>hold b (s.zlt b h)⟩,λn h=>S4 h,λn hu hl => ?_,λn b hu hl hb => ?_⟩
  ·have:=hne n hu;rw [C1,if_neg this] at hl;exact⟨hl,by simp [G3,this]⟩
  ·have:=hne n hu;rw [C1,if_neg this] at hl;simp only [World.shape?,hold b (s.lt hl hb)]
 refine { s with env:=?_,obj:=?_,inj:=?_,blk:=?_,zlt:=?_,pin:=?_,shp:=?_,size:=?_,block:=?_,os:=s.os,tape:=s.tape,output:=s.output,foot:=hF }
 ·intro k x hk;obtain⟨v,h1,h2⟩:=s.env k x hk;exact⟨v,h1,h2.move m⟩
 ·intro n o' hn'
  by_cases h:n=nm
  ·subst h;simp only [B9,if_true,Option.some.injEq] at hn';subst hn';exact ho _ _ m (by simp [G3])
  ·simp only [B9,if_neg h] at hn';exact Ob.rep_move m (s.obj n o' hn') (by simp [G3,h]) (λb hb=>hold b (s.lt ⟨_,hn'⟩ hb))
 ·intro p q b hp hq hpb hqb;rw [C1] at hp hq
  by_cases h1:p=nm<;>by_cases h2:q=nm
  ·rw [h1,h2]
  ·rw [if_neg h2] at hq;simp only [G3,h1,h2,if_true,if_false,Option.some.injEq] at hpb hqb;have:=s.lt hq hqb;omega
  ·rw [if_neg h1] at hp;simp only [G3,h1,h2,if_true,if_false,Option.some.injEq] at hpb hqb;have:=s.lt hp hpb;omega
  ·rw [if_neg h1] at hp;rw [if_neg h2] at hq;simp only [G3,h1,h2,if_false] at hpb hqb;exact s.inj p q b hp hq hpb hqb
 ·intro n b hl hb;rw [C1] at hl
  by_cases h:n=nm
  ·simp only [G3,h,if_true,Option.some.injEq] at hb;subst hb;exact⟨λhz=>by have:=s.zlt _ hz;omega,.inl s.size⟩
  ·rw [if_neg h] at hl;simp only [G3,h,if_false] at hb;exact s.blk n b hl hb
 ·intro b hz;have:=s.zlt b hz;simp;omega
 ·intro n b hp hl;have h:n≠nm:=λe=>by have:=hB n b hp;omega
  rw [C1,if_neg h] at hl;simp only [G3,h,if_false];exact s.pin n b hp hl
 ·intro n b hp hl;have h:n≠nm:=λe=>by have:=hB n b hp;omega
  rw [C1,if_neg h] at hl;rw [<- s.shp n b hp hl];simp only [World.shape?,hold b (s.lt hl (s.pin n b hp hl))]
 ·have:=s.size;simp;omega
 ·intro k hk hk';rw [hold k (Nat.lt_of_lt_of_le hk s.size)];exact s.block k hk hk'
theorem Sim.newObj (s:Sim B env ob a w σ Z) (hB:B.ok) {nm:Nat} (hn:ob nm=none) (h1000:1000<=nm) {o:Ob} {c:Obj}
  (ho:∀ ob' σ',K4 ob ob' σ σ' Z Z w (w.alloc c)->σ' nm=some w.heap.size->o.rep ob' σ' Z (w.alloc c) nm) (hr:∀ r,o ≠ .reg r:=by intro r h;cases h) :
  Sim B env (B9 ob nm (some o)) a (w.alloc c) (G3 σ nm (some w.heap.size)) Z:=by
 have hold:∀ k,k<w.heap.size->(w.alloc c).heap[k]? = w.heap[k]? :=λk hk=>Go.RowKit.Below.heap_alloc w c k hk;refine s.newObjF hB hn h1000 ho ?_;have hreg:∀ n r,B9 ob nm (some o) n=some (some (.reg r))->n≠nm∧ob n=some (some (.reg r)):=λn r h=>by
  unfold B9 at h
  by_cases e:n=nm
  ·rw [if_pos e] at h;simp only [Option.some.injEq] at h;exact absurd h (hr r)
  ·rw [if_neg e] at h;exact⟨e,h⟩
 refine s.foot.move ⟨λ_ h=>h,λb h=>hold b (s.zlt b h)⟩ (by simp) (λn r h=>⟨(hreg n r h).2,by simp [G3,(hreg n r h).1]⟩) (λn b ⟨r,h⟩ hb=>hold b (s.lt ⟨_,(hreg n r h).2⟩ hb)) (λb _ hl _=>hold b hl) (λb h => .inl h) λm b hl hb => ?_;rw [C1] at hl
 by_cases e:m=nm
 ·simp only [G3,if_pos e,Option.some.injEq] at hb;left;omega
 ·rw [if_neg e] at hl;simp only [G3,if_neg e] at hb;exact .inr ⟨m,hl,hb⟩
theorem Sim.footSet (s:Sim B env ob a w σ Z) (hl:live ob n) (hb:σ n=some b) {w':World} (hold:∀ k,k≠b->w'.heap[k]? = w.heap[k]?) (hsz:w.heap.size<=w'.heap.size) (hr:∀ r,o' ≠ .reg r) :
  Ag B.w0.heap.size B.own (B9 ob n (some o')) σ Z w':=by
 have hreg:∀ m r,B9 ob n (some o') m=some (some (.reg r))->m≠n∧ob m=some (some (.reg r)):=λm r h=>by
  unfold B9 at h
  by_cases e:m=n
  ·rw [if_pos e] at h;simp only [Option.some.injEq] at h;exact absurd h (hr r)
  ·rw [if_neg e] at h;exact⟨e,h⟩
 refine s.foot.move ⟨λ_ h=>h,λk h=>hold k (λhk=>(s.blk n b hl hb).1 (hk ▸ h))⟩ hsz (λm r h=>⟨(hreg m r h).2,rfl⟩) (λm k ⟨r,h⟩ hk=>hold k λe=>(hreg m r h).1 (s.inj m n b ⟨_,(hreg m r h).2⟩ hl (e ▸ hk) hb)) (λk _ _ hk=>hold k λe=>hk n hl (e ▸ hb)) (λk h => .inl h) λm k hm hk => ?_;rw [C1] at hm;refine .inr ⟨m,?_,hk⟩
 by_cases e:m=n
 ·rw [e];exact hl
 ·rwa [if_neg e] at hm
theorem Ag.same {lo:Nat} {own:Nat->Prop} (F:Ag lo own ob σ Z w) (hl:∀ m,live (B9 ob n (some o')) m->live ob m) (hr:∀ r,o' ≠ .reg r):Ag lo own (B9 ob n (some o')) σ Z w:=by
 refine F.move (Ext.refl _ _) (Nat.le_refl _) (λm r h=>⟨?_,rfl⟩) (λ_ _ _ _=>rfl) (λ_ _ _ _=>rfl) (λ_ h => .inl h) λm b h hb => .inr ⟨m,hl m h,hb⟩;unfold B9 at h
 by_cases e:m=n
 ·rw [if_pos e] at h;simp only [Option.some.injEq] at h;exact absurd h (hr r)
 ·rwa [if_neg e] at h
theorem Sim.setObjF (s:Sim B env ob a w σ Z) {e:Nat} {o:Ob} (hn:ob n=some (some o)) (hb:σ n=some b) (hw:w.heap[b]? = some (.cells cur e (0,0))) (hsz:new.size=cur.size) (ho:∀ ob',K4 ob ob' σ σ Z Z w (w.setRow b new)->o'.rep ob' σ Z (w.setRow b new) n) (hF:Ag B.w0.heap.size B.own (B9 ob n (some o')) σ Z (w.setRow b new)) :
  Sim B env (B9 ob n (some o')) a (w.setRow b new) σ Z:=by
 have hl:live ob n:=⟨o,hn⟩;have hold:∀ k,k≠b->(w.setRow b new).heap[k]? = w.heap[k]? :=λk hk=>Fu w b new k hk;have hself:(w.setRow b new).heap[b]? = some (.cells new e (0,0)):=setRow_heap w b cur new e (0,0) hw;have m:K4 ob (B9 ob n (some o')) σ σ Z Z w (w.setRow b new):=by
  refine⟨⟨λ_ h=>h,λk h=>hold k (λhk=>(s.blk n b hl hb).1 (hk ▸ h))⟩,λm h=>S4 h,λm hu hm=>⟨?_,rfl⟩,λm k hu hm hk => ?_⟩
  ·rw [C1] at hm
   by_cases h:m=n
   ·rw [h];exact hl
   ·rwa [if_neg h] at hm
  ·by_cases h:k=b
   ·subst h;simp [World.shape?,hself,hw,hsz]
   ·simp only [World.shape?,hold k h]
 refine { s with env:=?_,obj:=?_,inj:=?_,blk:=?_,zlt:=?_,pin:=?_,shp:=?_,size:=?_,block:=?_,os:=s.os,tape:=s.tape,output:=s.output,foot:=hF }
 ·intro k x hk;obtain⟨v,h1,h2⟩:=s.env k x hk;exact⟨v,h1,h2.move m⟩
 ·intro q o'' hq
  by_cases h:q=n
  ·subst h;simp only [B9,if_true,Option.some.injEq] at hq;subst hq;exact ho _ m
  ·simp only [B9,if_neg h] at hq;exact Ob.rep_move m (s.obj q o'' hq) rfl (λk hk=>hold k (λe=>h (s.inj q n b ⟨_,hq⟩ hl (e ▸ hk) hb)))
 ·intro p q k hp hq;rw [C1] at hp hq;refine s.inj p q k ?_ ?_
  ·by_cases h:p=n
   ·rw [h];exact hl
   ·rwa [if_neg h] at hp
  ·by_cases h:q=n
   ·rw [h];exact hl
   ·rwa [if_neg h] at hq
 ·intro p k hp;rw [C1] at hp;refine s.blk p k ?_
  by_cases h:p=n
  ·rw [h];exact hl
  ·rwa [if_neg h] at hp
 ·intro k hz;have:=s.zlt k hz;simpa using this
 ·intro p k hpin hp;rw [C1] at hp;refine s.pin p k hpin ?_
  by_cases h:p=n
  ·rw [h];exact hl
  ·rwa [if_neg h] at hp
 ·intro p k hpin hp;rw [C1] at hp;have hlp:live ob p:=by
   by_cases h:p=n
   ·rw [h];exact hl
   ·rwa [if_neg h] at hp
  rw [<- s.shp p k hpin hlp]
  by_cases h:k=b
  ·subst h;simp [World.shape?,hself,hw,hsz]
  ·simp only [World.shape?,hold k h]
 ·simpa using s.size
 ·intro k hk hk';have hne:k≠b:=λe=>by
   subst e;rcases(s.blk n k hl hb).2 with h | h
   ·omega
   ·exact hk' h
  rw [hold k hne];exact s.block k hk hk'
theorem Sim.setObj (s:Sim B env ob a w σ Z) {e:Nat} {o:Ob} (hn:ob n=some (some o)) (hb:σ n=some b) (hw:w.heap[b]? = some (.cells cur e (0,0))) (hsz:new.size=cur.size) (ho:∀ ob',K4 ob ob' σ σ Z Z w (w.setRow b new)->o'.rep ob' σ Z (w.setRow b new) n) (hr:∀ r,o' ≠ .reg r:=by intro r h;cases h) :
  Sim B env (B9 ob n (some o')) a (w.setRow b new) σ Z:=by
 have hl:live ob n:=⟨o,hn⟩;have hold:∀ k,k≠b->(w.setRow b new).heap[k]? = w.heap[k]? :=λk hk=>Fu w b new k hk;exact s.setObjF hn hb hw hsz ho (s.footSet hl hb hold (by simp) hr)
theorem Sim.kill (s:Sim B env ob a w σ Z) (n:Nat):Sim B env (B9 ob n none) a w σ Z:=by
 have hl:∀ m,live (B9 ob n none) m->m≠n∧live ob m:=λm h=>by
  rw [C1] at h
  by_cases e:m=n
  ·rw [if_pos e] at h;simp at h
  ·rw [if_neg e] at h;exact⟨e,h⟩
 have m:K4 ob (B9 ob n none) σ σ Z Z w w:=⟨Ext.refl _ _,λm h=>S4 h,λm _ h=>⟨(hl m h).2,rfl⟩,λ_ _ _ _ _=>rfl⟩;refine { s with env:=?_,obj:=?_,inj:=λp q k hp hq=>s.inj p q k (hl p hp).2 (hl q hq).2,blk:=λp k hp=>s.blk p k (hl p hp).2,pin:=λp k hpin hp=>s.pin p k hpin (hl p hp).2,shp:=λp k hpin hp=>s.shp p k hpin (hl p hp).2,foot:=?_ }
 ·intro k x hk;obtain⟨v,h1,h2⟩:=s.env k x hk;exact⟨v,h1,h2.move m⟩
 ·intro q o hq
  by_cases h:q=n
  ·subst h;simp [B9] at hq
  ·simp only [B9,if_neg h] at hq;exact Ob.rep_move m (s.obj q o hq) rfl (λ_ _=>rfl)
 ·refine s.foot.move (Ext.refl _ _) (Nat.le_refl _) (λm r h=>⟨?_,rfl⟩) (λ_ _ _ _=>rfl) (λ_ _ _ _=>rfl) (λ_ h => .inl h) (λm b h hb => .inr ⟨m,(hl m h).2,hb⟩);unfold B9 at h
  by_cases e:m=n
  ·rw [if_pos e] at h;simp at h
  ·rwa [if_neg e] at h
end
theorem OpJ.run {o:Oper} {d:Nat} {α:Eff} {v:V} (hg:o.guard=none) (hd:o.dst=some d) (hN:d<B.N) (hwt:α.wt=[(d,v)])
  (h:∀ (env:Env) (ob:Obs) (a:Act) (w:World) (σ:Nat->Option Nat) (Z:Nat->Prop),Sim B env ob a w σ Z->α.needs env ob ->
   ∃ cv w' σ' Z',(execOp a.eval o).run P w = .ok (.value cv) w'∧Sim B env (α.obs ob) a w' σ' Z'∧D0 (α.obs ob) σ' Z' w' cv v):OpJ P B ops o α:=by
 intro Q env ob a w σ Z K s hn hK;obtain⟨cv,w',σ',Z',hr,s',hv⟩:=h env ob a w σ Z s hn;rw [if_pos (by simp [Region.wanted,hg])];unfold Oper.wp;rw [hr,Oper.upon_value,hd];refine hK _ _ σ' Z' ?_;rw [O8 _ hwt];exact s'.put hN hv
theorem OpJ.run0 {o:Oper} {α:Eff} (hg:o.guard=none) (hd:o.dst=none) (hwt:α.wt=[])
  (h:∀ (env:Env) (ob:Obs) (a:Act) (w:World) (σ:Nat->Option Nat) (Z:Nat->Prop),Sim B env ob a w σ Z->α.needs env ob ->
   ∃ w' σ' Z',((execOp a.eval o).run P w = .ok .skip w'∨∃ cv,(execOp a.eval o).run P w = .ok (.value cv) w')∧Sim B env (α.obs ob) a w' σ' Z'):OpJ P B ops o α:=by
 intro Q env ob a w σ Z K s hn hK;obtain⟨w',σ',Z',hr,s'⟩:=h env ob a w σ Z s hn;rw [if_pos (by simp [Region.wanted,hg])];unfold Oper.wp;have e:∀ v,a.put none v=a:=λv=>rfl;rcases hr with hr | ⟨cv,hr⟩
 ·rw [hr,Oper.upon_skip,hd,e];exact hK _ _ σ' Z' (by rw [Lj _ hwt];exact s')
 ·rw [hr,Oper.upon_value,hd,e];exact hK _ _ σ' Z' (by rw [Lj _ hwt];exact s')
section
variable {d:Nat} {x y i:Operand} {ty:TypeId} {pos:String} {af:Array Edge} {nt nt':List (Nat×V)}
variable {fs:Array Field} {ag:Bool} {el:D} {fl:Field} {k:IntKind} {es:List D} {p:List Nat} {f nm off:Nat} {σ:Nat->Option Nat} {Z:Nat->Prop} {obj:Ob} {bt s t:TypeId} {c:V} {w:World}
theorem L5 {v:Value} (h:D0 ob σ Z w v (.ptr n off p)) (hl:live ob n) :
  ∃ b,σ n=some b∧v = .pointer (some ⟨b,off,none⟩):=by
 obtain⟨b,hb,hv⟩:=(And.left h).2 hl;exact⟨b,hb,by simpa using hv⟩
theorem Ev {b:Nat} (hl:live ob n) (hb:σ n=some b):D0 ob σ Z w (.pointer (some ⟨b,off,none⟩)) (.ptr n off p) :=
 ⟨⟨hl.used,λ_=>⟨b,hb,rfl⟩⟩,.inr rfl⟩
theorem Cs {v:Value} {x:D} (h:D0 ob σ Z w v (.dptr x)) :
  ∃ b o xs,v = .pointer (some ⟨b,o,none⟩)∧Z b∧G6 w b o xs∧D.rep Z w x xs:=by
 obtain⟨b,o,xs,hv,h2⟩:=And.left h;exact⟨b,o,xs,by simpa using hv,h2⟩
theorem Fv {ob:Obs} {σ:Nat->Option Nat} {Z:Nat->Prop} {w:World} {b o:Nat} {xs:List Value} {x:D} (hz:Z b) (hc:G6 w b o xs) (hr:D.rep Z w x xs):D0 ob σ Z w (.pointer (some ⟨b,o,none⟩)) (.dptr x) :=
 ⟨⟨b,o,xs,rfl,hz,hc,hr⟩,.inr rfl⟩
theorem Jq {o:Nat} (hs:P.underlying s=some (.struct fs)) (hf:fs[f]? = some fl) (ho:fl.offset=o) (ht:TyS P fl.type n ag) (hn:n≠0) (w:World) (b off:Nat) :
  (Instr.fieldAt s (.pointer (some ⟨b,off,none⟩)) f).run P w = .ok (.pointer (some ⟨b,off+o,none⟩)) w:=by
 have hsz:=ht.run_size w;simp [Instr.fieldAt,run_underlying hs,hf,Instr.sureAddr,fieldPlace,hsz,hn,K6,ho]
theorem OpJ.fieldP {o:Nat} (hs:P.underlying s=some (.struct fs)) (hf:fs[f]? = some fl) (ho:fl.offset=o) (ht:TyS P fl.type n ag) (hn:n≠0) (hN:d<B.N) (hx:Opd x (.ptr nm off p) nt) :
  OpJ P B ops ⟨some d,.fieldAddr s x f,ty,pos,af,none⟩ { nt,no:=[(nm,obj)],wt:=[(d,.ptr nm (off+o) (p++[f]))] } :=
 OpJ.run rfl rfl hN rfl λenv ob a w σ Z sm hne=>by
  have hl:live ob nm:=⟨obj,hne.2.1 (nm,obj) (by simp)⟩;obtain⟨b,hb,hv⟩:=L5 (hx B env ob a w σ Z sm hne.1) hl;refine⟨.pointer (some ⟨b,off+o,none⟩),w,σ,Z,?_,by rw [C9 _ rfl];exact sm,by rw [C9 _ rfl];exact Ev hl hb⟩;simp only [execOp,hv,Sem.run_bind,Jq hs hf ho ht hn,Result.andThen_ok];rfl
theorem OpJ.fieldD {o:Nat} (hs:P.underlying s=some (.struct fs)) (hf:fs[f]? = some fl) (ho:fl.offset=o) (ht:TyS P fl.type n ag) (hn:n≠0) {ds:List D} {e:D} (he:ds[f]? = some e) (hoff:D.szL (ds.take f)=o) (hN:d<B.N) (hx:Opd x (.dptr (.st ds)) nt) :
  OpJ P B ops ⟨some d,.fieldAddr s x f,ty,pos,af,none⟩ { nt,wt:=[(d,.dptr e)] } :=
 OpJ.pure rfl rfl hN λenv ob a w σ Z sm hne=>by
  obtain⟨b,off,xs,hv,hz,hc,hr⟩:=Cs (hx B env ob a w σ Z sm hne);obtain⟨c1,c2,c3,h1,h2,h3,h4,_⟩:=I5 (Z:=Z) (w:=w) hr he;refine⟨.pointer (some ⟨b,off+o,none⟩),?_,Fv hz (xs:=c2) (λj v hj => ?_) h4⟩
  ·simp only [execOp,hv,Sem.run_bind,Jq hs hf ho ht hn,Result.andThen_ok];rfl
  ·have hlt:j<c2.length:=(List.getElem?_eq_some_iff.1 hj).1;have:=hc (o+j) v (by rw [h1,List.append_assoc,List.getElem?_append_right (by omega),show o+j-c1.length=j from by omega,List.getElem?_append_left hlt];exact hj);rwa [<- Nat.add_assoc] at this
theorem U0 {v:Value} {sz:Nat} (h:D0 ob σ Z w v (.d (.list sz es))) :
  ∃ a c,v = .slice a es.length c∧es.length<=c∧c<=9223372036854775807∧(es=[]∨∃ b o,a=some ⟨b,o,none⟩∧Z b∧(∀ e∈es,e.sz=sz)∧D.repE Z w sz es b o):=by
 obtain⟨a,c,hv,h2⟩:=And.left h;exact⟨a,c,by simpa using hv,h2⟩
theorem OpJ.indexD {e:TypeId} {sz:Nat} (hu:P.underlying t=some (.slice e)) (ht:TyS P e sz ag) {n:Int} (h0:0<=n) (he:es[n.toNat]? = some el) (hN:d<B.N) (hx:Opd x (.d (.list sz es)) nt) (hi:Opd i (.d (.int k n)) nt') :
  OpJ P B ops ⟨some d,.indexAddr t x i,ty,pos,af,none⟩ { nt:=nt++nt',wt:=[(d,.dptr el)] } :=
 OpJ.pure rfl rfl hN λenv ob a w σ Z sm hne=>by
  obtain⟨h1,h2⟩:=B4 hne;obtain⟨ad,c,hv,hc1,hc2,hd⟩:=U0 (hx B env ob a w σ Z sm h1);have hin:=E6 (hi B env ob a w σ Z sm h2);have hlt:n.toNat<es.length:=(List.getElem?_eq_some_iff.1 he).1;rcases hd with hd | ⟨b,o,ha,hz,hs,hr⟩
  ·rw [hd] at hlt;simp at hlt
  ·obtain⟨cs,g1,g2⟩:=D.repE_get es b o n.toNat el hr he;refine⟨.pointer (some ⟨b,o+n.toNat*sz,none⟩),?_,Fv hz g1 g2⟩;have hb:n<(es.length:Int):=by omega
   simp [execOp,hv,hin,ha,Instr.indexAt,asIntOf,run_underlying hu,h0,hb,ht.run_size,K6]
theorem O9 {v:Value} {sz len:Nat} (h:D0 ob σ Z w v (.sref n sz off len)) (hl:live ob n) :
  ∃ a c,v = .slice a len c∧len<=c∧c<=9223372036854775807 ∧
   ((σ n=none∧a=none∧off=0∧c=0) ∨
    ∃ b e,σ n=some b∧(c=0∨a=some ⟨b,off*sz,none⟩)∧w.shape? b=some (e,(off+c)*sz)∧(off=0->a=some ⟨b,0,none⟩)):=by
 obtain⟨a,c,hv,h2⟩:=(And.left h).2 hl;exact⟨a,c,by simpa using hv,h2⟩
theorem OpJ.indexS {e:TypeId} {sz:Nat} (hu:P.underlying t=some (.slice e)) (ht:TyS P e sz ag) {len:Nat} {n:Int} (h0:0<=n) (he:n.toNat<len) (hN:d<B.N) (hx:Opd x (.sref nm sz off len) nt) (hi:Opd i (.d (.int k n)) nt') :
  OpJ P B ops ⟨some d,.indexAddr t x i,ty,pos,af,none⟩ { nt:=nt++nt',no:=[(nm,obj)],wt:=[(d,.ptr nm ((off+n.toNat)*sz) [off+n.toNat])] } :=
 OpJ.run rfl rfl hN rfl λenv ob a w σ Z sm hne=>by
  obtain⟨h1,h2⟩:=B4 hne.1;have hl:live ob nm:=⟨obj,hne.2.1 (nm,obj) (by simp)⟩;obtain⟨ad,c,hv,hc1,hc2,hd⟩:=O9 (hx B env ob a w σ Z sm h1) hl;have hin:=E6 (hi B env ob a w σ Z sm h2);rcases hd with ⟨_,_,_,hc⟩ | ⟨b,e',hb,ha,_,_⟩
  ·omega
  ·have ha':ad=some ⟨b,off*sz,none⟩:=ha.resolve_left (by omega);refine⟨.pointer (some ⟨b,(off+n.toNat)*sz,none⟩),w,σ,Z,?_,by rw [C9 _ rfl];exact sm,by rw [C9 _ rfl];exact Ev hl hb⟩;have hb:n<(len:Int):=by omega
   simp [execOp,hv,hin,ha',Instr.indexAt,asIntOf,run_underlying hu,h0,hb,ht.run_size,K6,Nat.add_mul]
theorem OpJ.indexDA {t e:TypeId} {len sz:Nat} {ag:Bool} (hu:P.underlying t=some (.array len e)) (ht:TyS P e sz ag) {es:List D} {k:IntKind} {n:Int} {el:D} (h0:0<=n) (he:es[n.toNat]? = some el) (hN:d<B.N)
  (hx:Opd x (.dptr (.arr len sz es)) nt) (hi:Opd i (.d (.int k n)) nt') :
  OpJ P B ops ⟨some d,.indexAddr t x i,ty,pos,af,none⟩ { nt:=nt++nt',wt:=[(d,.dptr el)] } :=
 OpJ.pure rfl rfl hN λenv ob a w σ Z sm hne=>by
  obtain⟨h1,h2⟩:=B4 hne;obtain⟨b,off,xs,hv,hz,hc,hr⟩:=Cs (hx B env ob a w σ Z sm h1);have hin:=E6 (hi B env ob a w σ Z sm h2);obtain⟨hlen,hszs,hr⟩:=hr;have hlt:n.toNat<es.length:=(List.getElem?_eq_some_iff.1 he).1;obtain⟨c1,c2,c3,g1,g2,g3,g4,_⟩:=I5 (Z:=Z) (w:=w) hr he;have hc1:c1.length=n.toNat*sz:=by rw [g2,D.szL_all _ (λx hx=>hszs x (List.mem_of_mem_take hx)),List.length_take,Nat.min_eq_left (by omega)]
  refine⟨.pointer (some ⟨b,off+n.toNat*sz,none⟩),?_,Fv hz (xs:=c2) (λj v hj => ?_) g4⟩
  ·have hb:n<(len:Int):=by omega
   simp [execOp,hv,hin,Instr.indexAt,asIntOf,run_underlying hu,Instr.sureAddr,h0,hb,ht.run_size,K6]
  ·have hlt:j<c2.length:=(List.getElem?_eq_some_iff.1 hj).1;have:=hc (n.toNat*sz+j) v (by rw [g1,List.append_assoc,List.getElem?_append_right (by omega),show n.toNat*sz+j-c1.length=j from by omega,List.getElem?_append_left hlt];exact hj);rwa [<- Nat.add_assoc] at this
theorem OpJ.indexPA {e:TypeId} {len sz:Nat} (hu:P.underlying t=some (.array len e)) (ht:TyS P e sz ag) {n:Int} (h0:0<=n) (he:n<len) (hN:d<B.N) (hx:Opd x (.ptr nm off p) nt) (hi:Opd i (.d (.int k n)) nt') :
  OpJ P B ops ⟨some d,.indexAddr t x i,ty,pos,af,none⟩ { nt:=nt++nt',no:=[(nm,obj)],wt:=[(d,.ptr nm (off+n.toNat*sz) (p++[n.toNat]))] } :=
 OpJ.run rfl rfl hN rfl λenv ob a w σ Z sm hne=>by
  obtain⟨h1,h2⟩:=B4 hne.1;have hl:live ob nm:=⟨obj,hne.2.1 (nm,obj) (by simp)⟩;obtain⟨b,hb,hv⟩:=L5 (hx B env ob a w σ Z sm h1) hl;have hin:=E6 (hi B env ob a w σ Z sm h2);refine⟨.pointer (some ⟨b,off+n.toNat*sz,none⟩),w,σ,Z,?_,by rw [C9 _ rfl];exact sm,by rw [C9 _ rfl];exact Ev hl hb⟩;simp [execOp,hv,hin,Instr.indexAt,asIntOf,run_underlying hu,Instr.sureAddr,h0,he,ht.run_size,K6]
theorem OpJ.loadD (ht:TyS P t n ag) {e:D} (hag:e.isAgg=ag) (hsz:e.sz=n) (hN:d<B.N) (hx:Opd x (.dptr e) nt) :
  OpJ P B ops ⟨some d,.load t x,ty,pos,af,none⟩ { nt,wt:=[(d,.d e)] } :=
 OpJ.pure rfl rfl hN λenv ob a w σ Z sm hne=>by
  obtain⟨b,off,xs,hv,hz,hc,hr⟩:=Cs (hx B env ob a w σ Z sm hne);have hl:=D.rep_len e xs hr;have h1:ag=false->n=1:=λh=>by subst hag;subst hsz;exact D.sz_one h
  refine⟨D3 ag xs,?_,D0.of (F3.of_cells (x:=.d e) hr hl (D.rep_one e xs hr) ag hag) rfl⟩;simp only [execOp,hv,Instr.loadAt,Instr.sureAddr,Sem.run_bind,Sem.run_pure,Result.andThen_ok,K7 ht hc (hl.trans hsz) h1]
theorem OpJ.loadB (ht:TyS P t n ag) {v:V} (hat:At c p off v) (hag:v.isAgg=ag) (hsz:v.sz=n) (hnt:v.isTop=false) (hN:d<B.N) (hx:Opd x (.ptr nm off p) nt) :
  OpJ P B ops ⟨some d,.load t x,ty,pos,af,none⟩ { nt,no:=[(nm,.box bt c)],wt:=[(d,v)] } :=
 OpJ.run rfl rfl hN rfl λenv ob a w σ Z sm hne=>by
  have hob:=hne.2.1 (nm,.box bt c) (by simp);have hl:live ob nm:=⟨_,hob⟩;obtain⟨b,hb,hv⟩:=L5 (hx B env ob a w σ Z sm hne.1) hl;obtain⟨b',cs,hb',hw,hone,hsize,hr⟩:=sm.obj nm _ hob;have:b'=b:=Option.some.inj (hb'.symm.trans hb);subst this;obtain⟨c1,c2,c3,g1,g2,g3,g4⟩:=hat.cells hr (by simpa using hsize);have hc:G6 w b' off c2:=λj u hj=>by
   have hlt:j<c2.length:=(List.getElem?_eq_some_iff.1 hj).1;rw [cell_of_row w b' (off+j) cs bt (0,0) hw];have:cs.toList[off+j]? = some u:=by rw [g1,List.append_assoc,List.getElem?_append_right (by omega),show off+j-c1.length=j from by omega,List.getElem?_append_left hlt];exact hj
   simpa using this
  have h1:ag=false->n=1:=λh=>by subst hag;subst hsz;exact V.sz_one h
  refine⟨D3 ag c2,w,σ,Z,?_,by rw [C9 _ rfl];exact sm,?_⟩
  ·simp only [execOp,hv,Instr.loadAt,Instr.sureAddr,Sem.run_bind,Sem.run_pure,Result.andThen_ok,K7 ht hc (g3.trans hsz) h1]
  ·rw [C9 _ rfl];refine D0.of (F3.of_cells g4 g3 (λu hu=>hone u (by rw [g1];simp [hu])) ag hag) hnt
theorem Ob.row_cells {ob:Obs} {σ:Nat->Option Nat} {Z:Nat->Prop} {w:World} {n e sz b:Nat} {es:List D} (h:(Ob.row e sz es).rep ob σ Z w n) (hb:σ n=some b) :
  ∃ cur cap xs,w.heap[b]? = some (.cells cur e (0,0))∧cur.size=cap*sz∧es.length<=cap∧cap<=9223372036854775807∧D.repL Z w es xs∧xs.length=es.length*sz∧cur.toList.take (es.length*sz)=xs:=by
 obtain⟨h0,h00,v,xs,h1,h2,h3,h4⟩:=h;obtain⟨g1,g2⟩:=h1;rcases g2 with ⟨g2,_⟩ | ⟨g,cap,cur,k1,_,k3,k4,k5,k6,k7⟩
 ·rw [g2] at h3;rw [hb] at h3;simp [Value.ownBlock] at h3
 ·have:g=b:=by rw [k1,hb] at h3;simpa [Value.ownBlock] using h3
  subst this;exact⟨cur,cap,xs,k3,k6,k4,by simpa [maxLen] using k5,h2,g1,k7⟩
theorem OpJ.loadR (ht:TyS P t n ag) {k:Nat} {e sz:Nat} {v:D} (hel:es[k]? = some el) {o:Nat} (hat:At (.d el) p o (.d v)) (hoff:off=k*sz+o) (hag:v.isAgg=ag) (hsz:v.sz=n) (hN:d<B.N) (hx:Opd x (.ptr nm off (k :: p)) nt) :
  OpJ P B ops ⟨some d,.load t x,ty,pos,af,none⟩ { nt,no:=[(nm,.row e sz es)],wt:=[(d,.d v)] } :=
 OpJ.run rfl rfl hN rfl λenv ob a w σ Z sm hne=>by
  have hob:=hne.2.1 (nm,.row e sz es) (by simp);have hl:live ob nm:=⟨_,hob⟩;obtain⟨b,hb,hv⟩:=L5 (hx B env ob a w σ Z sm hne.1) hl;have hro:=sm.obj nm _ hob;obtain⟨cur,cap,xs,hw,hcs,_,_,hr,hxl,htake⟩:=Ob.row_cells hro hb;obtain⟨c1,c2,c3,g1,g2,g3,g4,_⟩:=I5 (Z:=Z) (w:=w) hr hel;have hk:k<es.length:=(List.getElem?_eq_some_iff.1 hel).1;have hc1:c1.length=k*sz:=by rw [g2,D.szL_all _ (λx hx=>hro.2.1 x (List.mem_of_mem_take hx)),List.length_take,Nat.min_eq_left (by omega)]
  obtain⟨d1,d2,d3,e1,e2,e3,e4⟩:=hat.cells (ob:=ob) (σ:=σ) (Z:=Z) (w:=w) (cs:=c2) g4 g3;have hc:G6 w b off d2:=λj u hj=>by
   have hlt:j<d2.length:=(List.getElem?_eq_some_iff.1 hj).1;rw [cell_of_row w b (off+j) cur e (0,0) hw];have hx:xs[off+j]? = some u:=by
    rw [g1,e1,show c1++(d1++d2++d3)++c3=(c1++d1)++(d2++(d3++c3)) from by simp,List.getElem?_append_right (by simp;omega),show off+j-(c1++d1).length=j from by simp;omega,List.getElem?_append_left hlt];exact hj
   have:cur.toList[off+j]? = some u:=by
    rw [<- htake] at hx;rw [List.getElem?_take] at hx;split at hx
    ·exact hx
    ·cases hx
   simpa using this
  have h1:ag=false->n=1:=λh=>by subst hag;subst hsz;exact D.sz_one h
  refine⟨D3 ag d2,w,σ,Z,?_,by rw [C9 _ rfl];exact sm,?_⟩
  ·simp only [execOp,hv,Instr.loadAt,Instr.sureAddr,Sem.run_bind,Sem.run_pure,Result.andThen_ok,K7 ht hc (e3.trans hsz) h1]
  ·rw [C9 _ rfl];exact D0.of (F3.of_cells (x:=.d v) e4 e3 (D.rep_one v d2 e4) ag hag) rfl
theorem OpJ.storeB (ht:TyS P t n ag) {v c':V} (hset:L6 c p off v c') (hsz:v.sz=n) (hcs:c'.sz=c.sz) (hj:v ≠ .junk) (hnt:v.isTop=false) (hx:Opd x (.ptr nm off p) nt) (hy:Opd y v nt') :
  OpJ P B ops ⟨none,.store t x y,ty,pos,af,none⟩ { nt:=nt++nt',no:=[(nm,.box bt c)],wo:=[(nm,some (.box bt c'))] } :=
 OpJ.run0 rfl rfl rfl λenv ob a w σ Z sm hne=>by
  obtain⟨h1,h2⟩:=B4 hne.1;have hob:=hne.2.1 (nm,.box bt c) (by simp);have hl:live ob nm:=⟨_,hob⟩;obtain⟨b,hb,hv⟩:=L5 (hx B env ob a w σ Z sm h1) hl;obtain⟨b',cs,hb',hw,hone,hsize,hr⟩:=sm.obj nm _ hob;have:b'=b:=Option.some.inj (hb'.symm.trans hb);subst this;obtain⟨gr,gl,g1⟩:=(D0.to (hy B env ob a w σ Z sm h2) hnt).full hj;have hcells:=hset.cells hr (by simpa using hsize) gr (by simpa using gl) g1 hcs hone;have hnl:(a.eval y).cells.toList.length=n:=by simpa [hsz] using gl
  have hrun:=X4 ht hw (v:=a.eval y) (by simpa [hsz] using gl) (by have:=hcells.2;simp [hnl] at this;omega) g1 (o:=off);refine⟨w.setRow b' (cs.toList.take off++(a.eval y).cells.toList++cs.toList.drop (off+n)).toArray,σ,Z,.inl ?_,?_⟩
  ·simp only [execOp,hv,Instr.storeAt,Instr.sureAddr,Sem.run_bind,Sem.run_pure,Result.andThen_ok,hrun]
  ·rw [F1 _ rfl];have hlen:(cs.toList.take off++(a.eval y).cells.toList++cs.toList.drop (off+n)).length=cs.size:=by
    have:=hcells.2;simp [hnl] at this ⊢;simp [hnl] at *;omega
   refine sm.setObj hob hb hw (by simpa using hlen) λob' m=>⟨b',_,hb,setRow_heap w b' cs _ bt (0,0) hw,?_,?_,?_⟩
   ·intro u hu;simp only [List.mem_append] at hu;rcases hu with (hu | hu) | hu
    ·exact hone u (List.mem_of_mem_take hu)
    ·exact g1 u hu
    ·exact hone u (List.mem_of_mem_drop hu)
   ·rw [hcs,<- hsize];simpa using hlen
   ·have:=hcells.1;rw [hnl] at this;exact V.rep_move m c' _ this
theorem OpJ.storeR (ht:TyS P t n ag) {k:Nat} {e sz:Nat} {es':List D} {el':D} {v:D} (hel:es[k]? = some el) {o:Nat} (hset:L6 (.d el) p o (.d v) (.d el')) (hoff:off=k*sz+o) (hes:es'=es.set k el') (hsz:v.sz=n) (hcs:el'.sz=el.sz) (hx:Opd x (.ptr nm off (k :: p)) nt) (hy:Opd y (.d v) nt') :
  OpJ P B ops ⟨none,.store t x y,ty,pos,af,none⟩ { nt:=nt++nt',no:=[(nm,.row e sz es)],wo:=[(nm,some (.row e sz es'))] } :=
 OpJ.run0 rfl rfl rfl λenv ob a w σ Z sm hne=>by
  obtain⟨h1,h2⟩:=B4 hne.1;have hob:=hne.2.1 (nm,.row e sz es) (by simp);have hl:live ob nm:=⟨_,hob⟩;obtain⟨b,hb,hv⟩:=L5 (hx B env ob a w σ Z sm h1) hl;have hro:=sm.obj nm _ hob;obtain⟨cur,cap,xs,hw,hcsz,hle,hcap,hr,hxl,htake⟩:=Ob.row_cells hro hb;obtain⟨gr,gl,g1⟩:=(D0.to (hy B env ob a w σ Z sm h2) rfl).full (by simp);obtain⟨c1,c2,c3,e1,e2,e3,e4,e5⟩:=I5 (Z:=Z) (w:=w) hr hel;have hk:k<es.length:=(List.getElem?_eq_some_iff.1 hel).1;have hc1:c1.length=k*sz:=by rw [e2,D.szL_all _ (λx hx=>hro.2.1 x (List.mem_of_mem_take hx)),List.length_take,Nat.min_eq_left (by omega)]
  have hcells:=hset.cells (ob:=ob) (σ:=σ) (Z:=Z) (w:=w) (cs:=c2) e4 e3 gr (by simpa using gl) g1 hcs (D.rep_one el c2 e4);have hnl:(a.eval y).cells.toList.length=n:=by rw [<- hsz];simpa [V.sz] using gl
  have hxs:xs.length<=cur.size:=by rw [hxl,hcsz];exact Nat.mul_le_mul_right _ hle
  have hfit:off+n<=xs.length:=by
   have:=hcells.2;rw [hnl] at this;rw [e1];simp;omega
  have hrun:=X4 ht hw (v:=a.eval y) (by simpa using hnl) (by omega) g1 (o:=off);refine⟨w.setRow b (cur.toList.take off++(a.eval y).cells.toList++cur.toList.drop (off+n)).toArray,σ,Z,.inl ?_,?_⟩
  ·simp only [execOp,hv,Instr.storeAt,Instr.sureAddr,Sem.run_bind,Sem.run_pure,Result.andThen_ok,hrun]
  ·rw [F1 _ rfl];have hcl:cur.toList.length=cur.size:=Array.length_toList;have hlen:(cur.toList.take off++(a.eval y).cells.toList++cur.toList.drop (off+n)).length=cur.size:=by
    simp only [List.length_append,List.length_take,List.length_drop,hnl,hcl];omega
   refine sm.setObj hob hb hw (by simpa using hlen) λob' m => ?_;have hnew:D.repL Z w es' (c1++(c2.take o++(a.eval y).cells.toList++c2.drop (o+n))++c3):=by
    rw [hes];have:=hcells.1;rw [hnl] at this;exact e5 el' _ this
   have hlen':es'.length=es.length:=by rw [hes];simp
   have hcur:cur.toList=xs++cur.toList.drop xs.length:=by
    have:=List.take_append_drop (es.length*sz) cur.toList;rw [htake,<- hxl] at this;exact this.symm
   have hxe:(c1++(c2.take o++(a.eval y).cells.toList++c2.drop (o+n))++c3)=xs.take off++(a.eval y).cells.toList++xs.drop (off+n):=by
    have h2:=hcells.2;rw [hnl] at h2;rw [e1,hoff,<- hc1,List.append_assoc c1 c2 c3,List.take_length_add_append,List.take_append_of_le_length (by omega),Nat.add_assoc,List.drop_length_add_append,List.drop_append_of_le_length (by omega)];simp
   refine⟨hro.1,λy' hy' => ?_,.slice (some ⟨b,0,none⟩) es'.length cap,xs.take off++(a.eval y).cells.toList++xs.drop (off+n),⟨?_,.inr ⟨b,cap,_,rfl,Nat.zero_le _,setRow_heap w b cur _ e (0,0) hw,by omega,by simpa [maxLen] using hcap,?_,?_⟩⟩,?_,?_,?_⟩
   ·rw [hes] at hy';rcases List.mem_or_eq_of_mem_set hy' with hy' | hy'
    ·exact hro.2.1 y' hy'
    ·subst hy';rw [hcs];exact hro.2.1 el (List.mem_of_getElem? hel)
   ·rw [hlen',<- hxl];simp only [List.length_append,List.length_take,List.length_drop,hnl];omega
   ·rw [<- hcsz];simpa using hlen
   ·obtain⟨T,hT⟩:∃ T,cur.toList=xs++T:=⟨_,hcur⟩;have t1:cur.toList.take off=xs.take off:=by rw [hT,List.take_append_of_le_length (by omega)]
    have t2:cur.toList.drop (off+n)=xs.drop (off+n)++T:=by rw [hT,List.drop_append_of_le_length (by omega)]
    rw [hlen',<- hxl,t1,t2,<- List.append_assoc];refine List.take_left' ?_;simp only [List.length_append,List.length_take,List.length_drop,hnl];omega
   ·rw [<- hxe];exact D.repL_ext m.ext es' _ hnew
   ·simp [Value.ownBlock,hb]
   ·intro hnone;rw [hb] at hnone;cases hnone
end
end Go.Vc
