/- The abstract values of my layer, and what it means that a row of the model's cells reads as one. Nothing here names a program. -/
import Derived.WalkKit
namespace Go.Vc
open Go
inductive D where
 | bool (b:Bool)
 | int (k:IntKind) (n:Int)
 | str (s:List UInt8)
 | st (fs:List D)
 | arr (n sz:Nat) (es:List D)
 | list (sz:Nat) (es:List D)
 | imap (es:List (Int×Int))
 deriving Inhabited
mutual
def D.sz:D→Nat
 | .st fs=>D.szL fs
 | .arr n sz _=>n*sz
 | _=>1
def D.szL:List D→Nat
 | []=>0
 | f :: fs=>D.sz f+D.szL fs
end
def D.isAgg:D→Bool
 | .st _ | .arr .. => true
 | _=>false
def cellsAt (w:World) (b o:Nat) (cs:List Value):Prop:=∀ j v,cs[j]? = some v→w.cell? ⟨b,o+j,none⟩=some v
theorem cellsAt.of_block {w w':World} {b o:Nat} {cs:List Value} (h:cellsAt w b o cs) (he:w'.heap[b]? = w.heap[b]?):cellsAt w' b o cs :=
 fun j v hj=>(World.cell?_of_block (w:=w) (w':=w') (a:=⟨b,o+j,none⟩) he).trans (h j v hj)
mutual
/-- the cells cs, in world w, read as the datum; every block that is looked into lies in Z -/
def D.rep (Z:Nat→Prop) (w:World):D→List Value→Prop
 | .bool b,cs=>cs=[.bool b]
 | .int k n,cs=>cs=[.int k n]
 | .str s,cs=>cs=[.string ⟨s.toArray⟩]
 | .st fs,cs=>D.repL Z w fs cs
 | .arr n sz es,cs=>es.length=n∧(∀ e∈es,e.sz=sz)∧D.repL Z w es cs
 | .list sz es,cs=>∃ a c,cs=[.slice a es.length c]∧es.length≤c∧c≤9223372036854775807 ∧
   (es=[]∨∃ b o,a=some ⟨b,o,none⟩∧Z b∧(∀ e∈es,e.sz=sz)∧D.repE Z w sz es b o)
 | .imap es,cs=>∃ b,cs=[.map (some b)]∧Z b∧∃ (ents:Array MapEntry) (clock:Nat),w.heap[b]? = some (.map ents clock)∧(ents.toList.map fun e=>(e.key,e.val)).Perm (es.map fun p=>(Value.int .i64 p.1,Value.int .i64 p.2))∧(es.map (·.1)).Nodup
def D.repL (Z:Nat→Prop) (w:World):List D→List Value→Prop
 | [],cs=>cs=[]
 | f :: fs,cs=>∃ c1 c2,cs=c1++c2∧D.rep Z w f c1∧D.repL Z w fs c2
def D.repE (Z:Nat→Prop) (w:World) (sz:Nat):List D→Nat→Nat→Prop
 | [],_,_=>True
 | e :: es,b,o=>(∃ cs,cellsAt w b o cs∧D.rep Z w e cs)∧D.repE Z w sz es b (o+sz)
end
structure Ext (Z Z':Nat→Prop) (w w':World):Prop where
 sub:∀ b,Z b→Z' b
 same:∀ b,Z b→w'.heap[b]? = w.heap[b]?
theorem Ext.refl (Z:Nat→Prop) (w:World):Ext Z Z w w:=⟨fun _ h=>h,fun _ _=>rfl⟩
theorem Ext.trans {Z Z' Z'':Nat→Prop} {w w' w'':World} (h:Ext Z Z' w w') (k:Ext Z' Z'' w' w''):Ext Z Z'' w w'' :=
 ⟨fun b hb=>k.sub b (h.sub b hb),fun b hb=>(k.same b (h.sub b hb)).trans (h.same b hb)⟩
mutual
theorem D.rep_ext {Z Z':Nat→Prop} {w w':World} (hx:Ext Z Z' w w'):∀ (x:D) (cs:List Value),D.rep Z w x cs→D.rep Z' w' x cs
 | .bool _,_,h=>h
 | .int _ _,_,h=>h
 | .str _,_,h=>h
 | .st fs,cs,h=>D.repL_ext hx fs cs h
 | .arr _ _ es,cs,h=>⟨h.1,h.2.1,D.repL_ext hx es cs h.2.2⟩
 | .list sz es,cs,h=>by
  obtain⟨a,c,h1,h2,h3,h4⟩:=h;refine⟨a,c,h1,h2,h3,?_⟩;rcases h4 with h4 | ⟨b,o,ha,hz,he,hr⟩
  ·exact .inl h4
  ·exact .inr ⟨b,o,ha,hx.sub b hz,he,D.repE_ext hx sz es b o hz hr⟩
 | .imap es,cs,h=>by
  obtain⟨b,h1,h2,ents,clock,h3,h4⟩:=h;exact⟨b,h1,hx.sub b h2,ents,clock,(hx.same b h2).trans h3,h4⟩
theorem D.repL_ext {Z Z':Nat→Prop} {w w':World} (hx:Ext Z Z' w w'):∀ (fs:List D) (cs:List Value),D.repL Z w fs cs→D.repL Z' w' fs cs
 | [],_,h=>h
 | f :: fs,cs,h=>by
  obtain⟨c1,c2,h1,h2,h3⟩:=h;exact⟨c1,c2,h1,D.rep_ext hx f c1 h2,D.repL_ext hx fs c2 h3⟩
theorem D.repE_ext {Z Z':Nat→Prop} {w w':World} (hx:Ext Z Z' w w') (sz:Nat):∀ (es:List D) (b o:Nat),Z b→D.repE Z w sz es b o→D.repE Z' w' sz es b o
 | [],_,_,_,h=>h
 | e :: es,b,o,hz,h=>by
  obtain⟨⟨cs,h1,h2⟩,h3⟩:=h;exact⟨⟨cs,h1.of_block (hx.same b hz),D.rep_ext hx e cs h2⟩,D.repE_ext hx sz es b (o+sz) hz h3⟩
end
mutual
theorem D.rep_len {Z:Nat→Prop} {w:World}:∀ (x:D) (cs:List Value),D.rep Z w x cs→cs.length=x.sz
 | .bool _,_,h=>by cases h;rfl
 | .int _ _,_,h=>by cases h;rfl
 | .str _,_,h=>by cases h;rfl
 | .st fs,cs,h=>D.repL_len fs cs h
 | .arr n sz es,cs,h=>by
  have:=D.repL_len es cs h.2.2;rw [this];show D.szL es=n*sz;rw [← h.1];exact D.szL_all es h.2.1
 | .list _ _,_,h=>by obtain⟨a,c,h1,_⟩:=h;cases h1;rfl
 | .imap _,_,h=>by obtain⟨b,h1,_⟩:=h;cases h1;rfl
theorem D.repL_len {Z:Nat→Prop} {w:World}:∀ (fs:List D) (cs:List Value),D.repL Z w fs cs→cs.length=D.szL fs
 | [],_,h=>by cases h;rfl
 | f :: fs,cs,h=>by
  obtain⟨c1,c2,h1,h2,h3⟩:=h;rw [h1,List.length_append,D.rep_len f c1 h2,D.repL_len fs c2 h3];rfl
theorem D.szL_all {sz:Nat}:∀ (es:List D),(∀ e∈es,e.sz=sz)→D.szL es=es.length*sz
 | [],_=>by simp [D.szL]
 | e :: es,h=>by
  have h1:=h e (List.mem_cons_self ..);have h2:=D.szL_all es (fun x hx=>h x (List.mem_cons_of_mem _ hx));simp only [D.szL,h1,h2,List.length_cons,Nat.succ_mul];omega
end
mutual
theorem D.rep_one {Z:Nat→Prop} {w:World}:∀ (x:D) (cs:List Value),D.rep Z w x cs→∀ v∈cs,v.oneCell'=true
 | .bool _,_,h=>by cases h;simp [Value.oneCell']
 | .int _ _,_,h=>by cases h;simp [Value.oneCell']
 | .str _,_,h=>by cases h;simp [Value.oneCell']
 | .st fs,cs,h=>D.repL_one fs cs h
 | .arr _ _ es,cs,h=>D.repL_one es cs h.2.2
 | .list _ _,_,h=>by obtain⟨a,c,h1,_⟩:=h;cases h1;simp [Value.oneCell']
 | .imap _,_,h=>by obtain⟨b,h1,_⟩:=h;cases h1;simp [Value.oneCell']
theorem D.repL_one {Z:Nat→Prop} {w:World}:∀ (fs:List D) (cs:List Value),D.repL Z w fs cs→∀ v∈cs,v.oneCell'=true
 | [],_,h=>by cases h;simp
 | f :: fs,cs,h=>by
  obtain⟨c1,c2,h1,h2,h3⟩:=h;subst h1;intro v hv;rcases List.mem_append.1 hv with hv | hv
  ·exact D.rep_one f c1 h2 v hv
  ·exact D.repL_one fs c2 h3 v hv
end
theorem D.repE_get {Z:Nat→Prop} {w:World} {sz:Nat}:∀ (es:List D) (b o i:Nat) (e:D),D.repE Z w sz es b o→es[i]? = some e →
  ∃ cs,cellsAt w b (o+i*sz) cs∧D.rep Z w e cs
 | [],_,_,_,_,_,h=>by simp at h
 | x :: es,b,o,0,e,h,hi=>by
  obtain⟨⟨cs,h1,h2⟩,_⟩:=h;simp at hi;subst hi;exact⟨cs,by simpa using h1,h2⟩
 | x :: es,b,o,i+1,e,h,hi=>by
  have:=D.repE_get es b (o+sz) i e h.2 (by simpa using hi);obtain⟨cs,h1,h2⟩:=this;exact⟨cs,by rw [Nat.succ_mul];rw [show o+(i*sz+sz)=o+sz+i*sz from by omega];exact h1,h2⟩
theorem D.repE_drop {Z:Nat→Prop} {w:World} {sz:Nat}:∀ (es:List D) (b o i:Nat),D.repE Z w sz es b o→D.repE Z w sz (es.drop i) b (o+i*sz)
 | [],_,_,_,_=>by simp [D.repE]
 | x :: es,b,o,0,h=>by simpa using h
 | x :: es,b,o,i+1,h=>by
  have:=D.repE_drop es b (o+sz) i h.2;rw [List.drop_succ_cons,Nat.succ_mul,show o+(i*sz+sz)=o+sz+i*sz from by omega];exact this
theorem D.repE_take {Z:Nat→Prop} {w:World} {sz:Nat}:∀ (es:List D) (b o i:Nat),D.repE Z w sz es b o→D.repE Z w sz (es.take i) b o
 | [],_,_,_,_=>by simp [D.repE]
 | x :: es,b,o,0,h=>by simp [D.repE]
 | x :: es,b,o,i+1,h=>by
  rw [List.take_succ_cons];exact⟨h.1,D.repE_take es b (o+sz) i h.2⟩
theorem D.repE_of_repL {Z:Nat→Prop} {w:World} {sz:Nat}:∀ (es:List D) (b o:Nat) (cs:List Value),D.repL Z w es cs→(∀ e∈es,e.sz=sz)→cellsAt w b o cs→D.repE Z w sz es b o
 | [],_,_,_,_,_,_=>trivial
 | e :: es,b,o,cs,h,hs,hc=>by
  obtain⟨c1,c2,h1,h2,h3⟩:=h;subst h1;have hl:=D.rep_len e c1 h2;rw [hs e (List.mem_cons_self ..)] at hl;refine⟨⟨c1,fun j v hj=>hc j v (List.getElem?_append_left (by have:=(List.getElem?_eq_some_iff.1 hj).1;exact this) ▸ hj),h2⟩,?_⟩;refine D.repE_of_repL es b (o+sz) c2 h3 (fun x hx=>hs x (List.mem_cons_of_mem _ hx)) (fun j v hj => ?_);have:=hc (sz+j) v (by rw [List.getElem?_append_right (by omega),hl];simpa using hj);rw [← Nat.add_assoc] at this;exact this
theorem D.repL_append {Z:Nat→Prop} {w:World}:∀ (xs ys:List D) (c1 c2:List Value),D.repL Z w xs c1→D.repL Z w ys c2→D.repL Z w (xs++ys) (c1++c2)
 | [],_,_,_,h,k=>by cases h;simpa using k
 | x :: xs,ys,_,c2,h,k=>by
  obtain⟨a,b,h1,h2,h3⟩:=h;subst h1;exact⟨a,b++c2,by simp,h2,D.repL_append xs ys b c2 h3 k⟩
theorem D.repL_of_repE {Z:Nat→Prop} {w:World} {sz:Nat}:∀ (es:List D) (b o:Nat),D.repE Z w sz es b o→(∀ e∈es,e.sz=sz)→∃ cs,D.repL Z w es cs∧cellsAt w b o cs
 | [],_,_,_,_=>⟨[],rfl,fun j v h=>by simp at h⟩
 | e :: es,b,o,h,hs=>by
  obtain⟨⟨c1,h1,h2⟩,h3⟩:=h;obtain⟨c2,h4,h5⟩:=D.repL_of_repE es b (o+sz) h3 (fun x hx=>hs x (List.mem_cons_of_mem _ hx));have hl:=D.rep_len e c1 h2;rw [hs e (List.mem_cons_self ..)] at hl;refine⟨c1++c2,⟨c1,c2,rfl,h2,h4⟩,fun j v hj => ?_⟩;rcases Nat.lt_or_ge j c1.length with hlt | hge
  ·exact h1 j v (by rwa [List.getElem?_append_left hlt] at hj)
  ·rw [List.getElem?_append_right hge] at hj;have:=h5 (j-c1.length) v hj;rwa [show o+sz+(j-c1.length)=o+j from by omega] at this
end Go.Vc
