/- Part of the proof that 'TopFrames' holds of every input: no condition. -/
import Derived.Test.YtalojkjpjdcibaaGreatDoorXAJ
import Derived.Shelf.Strings.OnBuilder
import Derived.Shelf.Strings.SplitShaped
import Derived.Shelf.Strings.Shaped
import Derived.Shelf.Strconv.Itoa3
import Derived.Shelf.Strconv.AtoiAll
import Derived.Shelf.Bytes.SlJoin
import Derived.Test.YtalojkjpjdcibaaGreatDoorChecked
import Derived.KernelRfl
namespace Go.Vc
open Go Go.Shelf Go.RowKit Go.Proofs Go.Lib
variable {P:Program} {ρ:Ren}
variable {B:Nat} {a w:World}
theorem AC.fresh {f:FuncId} {args:List V} {ks:List (Nat×Ou)} {res:V}
  (h:∀ (ob:Obs) (w:World) (σ:Nat->Option Nat) (Z:Nat->Prop) (cargs:List Value),J8 ob σ Z w cargs args->(∀ b,Z b->b<w.heap.size)->(∀ n k,A1 ks n=some k->k.holds Z w) ->
   Calls P f cargs.toArray w λe w'=>∃ cv,e = .returned cv∧Below w.heap.size w w'∧∃ Z':Nat->Prop,(∀ b,Z b->Z' b)∧(∀ b,Z' b->Z b∨(w.heap.size<=b∧b<w'.heap.size))∧∀ ob σ,D0 ob σ Z' w' cv res) :
  AC P f args (ks.map λp=>(p.1,.know p.2)) res (ks.map λp=>(p.1,some (.know p.2))):=by
 intro w σ Z cargs pre;have kn:∀ n o,A1 (ks.map λp=>(p.1,some (Ob.know p.2))) n=some (some o)->∃ k,A1 ks n=some k∧o = .know k:=λn o hn=>by
  rw [N4 λk=>some (Ob.know k)] at hn;cases hk:A1 ks n with
  | none=>rw [hk] at hn;cases hn
  | some k=>rw [hk] at hn;cases hn;exact⟨k,rfl,rfl⟩
 have ob0:∀ n k,A1 ks n=some k->σ n=none∧k.holds Z w:=λn k hk=>pre.obj n (.know k) (by simp only [T8,N4 Ob.know,hk,Option.map_some]);have dead:∀ n b,live (A1 (ks.map λp=>(p.1,some (Ob.know p.2)))) n->σ n=some b->False:=λn b ⟨o,ho⟩ hb=>by
  obtain⟨k,hk,_⟩:=kn n o ho;rw [(ob0 n k hk).1] at hb;cases hb
 refine(h _ w σ Z cargs pre.args pre.zlt λn k hk=>(ob0 n k hk).2).mono λe w' ⟨cv,he,hb,Z',z1,z2,hr⟩=>⟨cv,σ,Z',he,⟨hr _ _,λn o hn => ?_,λn m b hn _ hb _=>(dead n b hn hb).elim,λ_ _ _ _=>rfl,λn b _ _ hl hb=>(dead n b hl hb).elim,λn b hl hb=>(dead n b hl hb).elim,λb hz => ?_,z1,λb hz => ?_,hb.os,hb.tape,hb.output,hb.size,λk hk _=>hb.block k hk⟩⟩
 ·obtain⟨k,hk,rfl⟩:=kn n o hn;exact⟨(ob0 n k hk).1,k.move ⟨z1,λb hz=>hb.block b (pre.zlt b hz)⟩ (ob0 n k hk).2⟩
 ·rcases z2 b hz with h | h
  ·exact Nat.lt_of_lt_of_le (pre.zlt b h) hb.size
  ·exact h.2
 ·rcases z2 b hz with h | h
  ·exact .inl h
  ·exact .inr (.inl h.1)
theorem Mm (h:Below B a w):∀ n,Below B a (w.drewN n):=λn=>⟨h.os,h.tape,h.output,h.size,h.block⟩
theorem Zl (h:Below B a w) (hB:B<=w.heap.size) (os:Array Obj):Below B a (Go.Sort.grow w os) :=
 ⟨h.os,h.tape,h.output,by simp only [Go.Sort.grow,Array.size_append];exact Nat.le_trans h.size (Nat.le_add_right _ _),λk hk=>by
  rw [<- h.block k hk];show(w.heap++os)[k]? = _;rw [Array.getElem?_append_left (Nat.lt_of_lt_of_le hk hB)]⟩
section
variable {ob:Obs} {σ:Nat->Option Nat} {Z:Nat->Prop} {w:World}
theorem A84 {v:Value} {xs:List (List UInt8)} (h:F3 ob σ Z w v (.d (.list 1 (xs.map D.str)))):∃ a c,v = .slice a xs.length c∧xs.length<=c∧(xs=[]∨∃ b o,a=some ⟨b,o,none⟩∧Z b∧∀ (j:Nat) x,xs[j]? = some x->w.cell? ⟨b,o+j,none⟩=some (.string ⟨x.toArray⟩)):=by
 obtain⟨a,c,h1,h2,_,h4⟩:=(And.left h:D.rep Z w _ [v]);rw [List.length_map] at h1 h2;refine⟨a,c,by simpa using h1,h2,?_⟩;rcases h4 with h4 | ⟨b,o,ha,hz,_,hr⟩
 ·exact .inl (by simpa using h4)
 ·refine .inr ⟨b,o,ha,hz,λj x hj => ?_⟩;obtain⟨cs,k1,k2⟩:=D.repE_get _ b o j (.str x) hr (by rw [List.getElem?_map,hj];rfl);have:=k1 0 (.string ⟨x.toArray⟩) (by rw [show cs=[.string ⟨x.toArray⟩] from k2];rfl);rwa [Nat.mul_one,Nat.add_zero] at this
theorem X0 {v:Value} {s:List UInt8} (h:F3 ob σ Z w v (.d (.str s))):v = .string ⟨s.toArray⟩:=by
 have:=(And.left h:D.rep Z w (.str s) [v]);simpa [D.rep] using this
end
variable {f g:Nat} {Z:Nat->Prop}
def A3b (xs:List (List UInt8)) (sep:List UInt8):Option (List UInt8):=chk (decide (xs.length<=LIM)&&decide ((join xs sep).length<=LIM)) (some (join xs sep))
def B50 (f:FuncId):Sg typ:=⟨f,[.d (.list .str) 0,.d .str 1],[],[.list .str,.str],[.str],.d .str 2,[],λx=>A3b x.1 x.2⟩
theorem W5 (l:List UInt8):(ByteArray.mk l.toArray).data.toList=l:=by simp
theorem A85 (L:Lays.n156 P ρ) (X:Builder.Extra P ρ) {f:FuncId} (hf:ρ.f 156=f):COk P (B50 f):=by
 subst hf;rintro⟨(xs:List (List UInt8)),(sep:List UInt8)⟩ r hr;obtain⟨hc,hr⟩:=N3 hr;simp only [Bool.and_eq_true,decide_eq_true_eq] at hc;have hl:LIM<=140737488355328:=by decide
 obtain rfl:=Option.some.inj hr;show AC P _ [.d (.list 1 (xs.map D.str)),.d (.str sep)] [] (.d (.str (join xs sep))) [];refine AC.fresh (ks:=[]) λob w σ Z cargs ha hz _ => ?_
 match cargs,ha with
 | [v1,v2],⟨h1,h2,_⟩ =>
  obtain⟨a,c,rfl,hcap,hd⟩:=A84 h1;obtain rfl:=X0 h2;have fin:∀ {e:Ending} {w':World},e = .returned (.string ⟨(join xs sep).toArray⟩)->Below w.heap.size w w'->∃ cv,e = .returned cv∧Below w.heap.size w w'∧∃ Z':Nat->Prop,(∀ b,Z b->Z' b)∧(∀ b,Z' b->Z b∨(w.heap.size<=b∧b<w'.heap.size))∧∀ ob σ,D0 ob σ Z' w' cv (.d (.str (join xs sep))) :=
   λhe hb=>⟨_,he,hb,Z,λ_ h=>h,λ_ h => .inl h,λ_ _=>Cq _⟩
  rcases hd with rfl | ⟨b,o,rfl,hzb,hcells⟩
  ·exact(Any.strings_Join_none L X a c ⟨sep.toArray⟩ w).mono λe w' ⟨he,hw⟩=>fin (by rw [he];rfl) (hw ▸ Below.refl _ _)
  ·have hj:=Any.strings_Join L X b o c (xs.map λl=>⟨l.toArray⟩) ⟨sep.toArray⟩ w (λj x hj=>by
    rw [List.getElem?_map] at hj;cases hq:xs[j]? with
    | none=>rw [hq] at hj;cases hj
    | some y=>rw [hq] at hj;cases hj;exact hcells j y hq) (hz b hzb) (by rw [List.length_map];omega) (by rw [List.length_map];exact hcap)
   rw [List.map_map,List.length_map] at hj;have em:xs.map ((λx:ByteArray=>x.data.toList) ∘ λl=>⟨l.toArray⟩)=xs:=by
    rw [List.map_congr_left (g:=id) (λl _=>by simp),List.map_id]
   rw [em,W5] at hj;exact(hj (by omega)).mono λe w' ⟨he,hb⟩=>fin he hb
theorem Ql {Z:Nat->Prop} {w:World}:∀ xs:List (List UInt8),D.repL Z w (xs.map D.str) (xs.map λl=>Value.string ⟨l.toArray⟩)
 | []=>rfl
 | x :: xs=>⟨[.string ⟨x.toArray⟩],xs.map λl=>Value.string ⟨l.toArray⟩,rfl,rfl,Ql xs⟩
def N5 (c:UInt8):List UInt8->List (List UInt8)
 | []=>[[]]
 | b :: l=>if b=c then [] :: N5 c l else match N5 c l with
  | h :: t=>(b :: h) :: t
  | []=>[[b]]
theorem A58 {b c:UInt8} (h:b≠c) (k:Nat) (l:List UInt8):splitK [c] 0 k (b :: l)=match splitK [c] 0 k l with
  | h :: t=>(b :: h) :: t
  | []=>[[b]]:=by
 have hb:¬ (c==b)=true:=λe=>h (eq_of_beq e).symm;cases k with
 | zero=>rfl
 | succ k =>
  have e:index (b :: l) [c]=if index l [c] == -1 then -1 else index l [c]+1:=by
   rw [index,if_neg (by simpa [List.isPrefixOf] using hb)]
  have g:=index_ge l [c];unfold splitK;rw [e]
  by_cases hm:(index l [c] == -1)=true
  ·rw [if_pos hm,if_pos hm];rfl
  ·have hi:index l [c] ≠ -1:=λe=>hm (by rw [e];rfl);obtain⟨i,hi⟩:∃ i:Nat,index l [c]=i:=⟨(index l [c]).toNat,by omega⟩;have q1:¬ (((i:Int)+1) == -1)=true:=λe=>by have:=eq_of_beq e;omega
   have q2:((i:Int)+1).toNat=i+1:=by omega
   have q3:¬ ((i:Int) == -1)=true:=λe=>by have:=eq_of_beq e;omega
   rw [if_neg hm,hi,if_neg q1,if_neg q3,q2];simp [Nat.add_right_comm]
theorem A59 (c:UInt8) (k:Nat) (l:List UInt8):splitK [c] 0 (k+1) (c :: l)=[] :: splitK [c] 0 k l:=by
 have e:index (c :: l) [c]=0:=by rw [index,if_pos (by simp [List.isPrefixOf])]
 rw [splitK,e];rfl
theorem Mn (c:UInt8):∀ l:List UInt8,splitK [c] 0 (l.count c) l=N5 c l
 | []=>rfl
 | b :: l=>by
  by_cases h:b=c
  ·subst h;rw [List.count_cons_self,A59,Mn b l,N5,if_pos rfl]
  ·rw [List.count_cons_of_ne h,A58 h,Mn c l,N5,if_neg h]
theorem A5a {x:ByteArray}:x=⟨x.data.toList.toArray⟩:=by cases x;simp
def Nx (s sep:List UInt8):Option (List (List UInt8)):=match sep with
 | [c]=>chk (decide (s.length<4294967281)) (some (N5 c s))
 | _=>none
def B0j (f g:Nat):Sg typ:=⟨f,[.d .str 0,.d .str 1],[(0,.glob g (.int .i64) 2)],[.str,.str,.int .i64],[.list .str],.d (.list .str) 3,[(0,some (.glob g (.int .i64) 2))],λx=>Nx x.1 x.2.1⟩
theorem Hs {m:Int} (h:(L2 g (.int .i64 m)).holds Z w):w.cell? ⟨g,0,none⟩=some (.int .i64 m):=by
 obtain⟨_,cs,h1,h2,_⟩:=h;have:cs=[.int .i64 m]:=h2;subst this;exact h1 0 _ rfl
theorem A5b (L:LaysM.n146 P ρ) (hf:ρ.f 146=f) (hg:ρ.g 1=g):COk P (B0j f g):=by
 subst hf hg;rintro⟨(s:List UInt8),(sep:List UInt8),(m:Int)⟩ r hr;have hr:Nx s sep=some r:=hr;obtain⟨c,rfl⟩:∃ c,sep=[c]:=by
  unfold Nx at hr;split at hr
  ·exact⟨_,rfl⟩
  ·cases hr
 obtain⟨hc,hr⟩:=N3 hr;have hc:=of_decide_eq_true hc;obtain rfl:=Option.some.inj hr;show AC P _ [.d (.str s),.d (.str [c])] [(0,.know (L2 (ρ.g 1) (.int .i64 m)))] (.d (.list 1 ((N5 c s).map D.str))) [(0,some (.know (L2 (ρ.g 1) (.int .i64 m))))];refine AC.fresh (ks:=[(0,L2 (ρ.g 1) (.int .i64 m))]) λob w σ Z cargs ha hz hk => ?_;have hm:=Hs (hk 0 _ rfl)
 match cargs,ha with
 | [v1,v2],⟨h1,h2,_⟩ =>
  obtain rfl:=X0 h1;obtain rfl:=X0 h2;have hsz:∀ l:List UInt8,ByteArray.size ⟨l.toArray⟩=l.length:=λl=>by simp [ByteArray.size]
  refine(Any.strings_Split { L with } L.i9 ⟨s.toArray⟩ ⟨[c].toArray⟩ m w (by rw [hsz];exact hc) hm (by rw [hsz];exact Nat.le_refl _)).mono λe w' ⟨he,hw⟩ => ?_;have h0:countB ⟨s.toArray⟩ ⟨[c].toArray⟩=s.count c:=by
   show count _ _=_;rw [W5,W5,count_one]
  have h1:=splitB_data ⟨[c].toArray⟩ 0 (s.count c) ⟨s.toArray⟩;rw [W5,W5,Mn] at h1;have h2:(splitB ⟨[c].toArray⟩ 0 (s.count c) ⟨s.toArray⟩).map Value.string=(N5 c s).map λl=>Value.string ⟨l.toArray⟩:=by
   rw [<- h1,List.map_map];exact List.map_congr_left λx _=>congrArg Value.string A5a
  have h3:=splitB_all ⟨[c].toArray⟩ (by rw [hsz];exact Nat.le_refl _) 0 _ ⟨s.toArray⟩ h0;have h4:(N5 c s).length=s.count c+1:=by rw [<- h1,List.length_map,h3]
  rw [h0] at he hw;rw [h2] at hw;subst hw;refine⟨_,he,(Below.refl _ w).alloc (Nat.le_refl _) _,λb=>Z b∨b=w.heap.size,λb h => .inl h,λb h => ?_,λob σ=>⟨⟨some ⟨w.heap.size,0,none⟩,s.count c+1,by rw [List.length_map,h4],by rw [List.length_map,h4];exact Nat.le_refl _,?_,.inr ⟨_,0,rfl,.inr rfl,?_,?_⟩⟩,.inr rfl⟩⟩
  ·rcases h with h | h
   ·exact .inl h
   ·subst h;exact .inr ⟨Nat.le_refl _,by simp⟩
  ·have:=List.count_le_length (a:=c) (l:=s);omega
  ·intro d hd;obtain⟨x,_,rfl⟩:=List.mem_map.1 hd;rfl
  ·refine D.repE_of_repL _ _ _ _ (Ql (N5 c s)) (λd hd => ?_) λj v hj => ?_
   ·obtain⟨x,_,rfl⟩:=List.mem_map.1 hd;rfl
   ·rw [Nat.zero_add,cell_of_row (w.alloc _) w.heap.size j _ _ (0,0) (heap_alloc_new w _)];rw [List.getElem?_toArray];exact hj
def C0c (s sep:List UInt8):Option Bool:=chk (decide (s.length<4294967281)) (some (contains s sep))
def C0d (f g:Nat):Sg typ:=⟨f,[.d .str 0,.d .str 1],[(0,.glob g (.int .i64) 2)],[.str,.str,.int .i64],[.bool],.d .bool 3,[(0,some (.glob g (.int .i64) 2))],λx=>C0c x.1 x.2.1⟩
theorem B2j (L:Lays.n144 P ρ) (hf:ρ.f 144=f) (hg:ρ.g 1=g):COk P (C0d f g):=by
 subst hf hg;rintro⟨(s:List UInt8),(sep:List UInt8),(m:Int)⟩ r hr;obtain⟨hc,hr⟩:=N3 hr;have hc:=of_decide_eq_true hc;obtain rfl:=Option.some.inj hr;show AC P _ [.d (.str s),.d (.str sep)] [(0,.know (L2 (ρ.g 1) (.int .i64 m)))] (.d (.bool (contains s sep))) [(0,some (.know (L2 (ρ.g 1) (.int .i64 m))))];refine AC.fresh (ks:=[(0,L2 (ρ.g 1) (.int .i64 m))]) λob w σ Z cargs ha hz hk => ?_;have hm:=Hs (hk 0 _ rfl)
 match cargs,ha with
 | [v1,v2],⟨h1,h2,_⟩ =>
  obtain rfl:=X0 h1;obtain rfl:=X0 h2;refine(Any.strings_Contains L ⟨s.toArray⟩ ⟨sep.toArray⟩ m w (by simpa [ByteArray.size] using hc) hm).mono λe w' ⟨he,hw⟩ => ?_;rw [W5,W5] at he;subst hw;exact⟨_,he,Below.refl _ _,Z,λ_ h=>h,λ_ h => .inl h,λ_ _=>H3 _⟩
def C0e (s sep:List UInt8):Option (List UInt8×List UInt8×Bool):=chk (decide (s.length<4294967281)) (some (cut s sep))
def C0f (f g:Nat):Sg typ:=⟨f,[.d .str 0,.d .str 1],[(0,.glob g (.int .i64) 2)],[.str,.str,.int .i64],[.str,.str,.bool],.tup (.cons (.d .str 3) (.cons (.d .str 4) (.cons (.d .bool 5) .nil))),[(0,some (.glob g (.int .i64) 2))],λx=>C0e x.1 x.2.1⟩
theorem B2k (L:Lays.n145 P ρ) (hf:ρ.f 145=f) (hg:ρ.g 1=g):COk P (C0f f g):=by
 subst hf hg;rintro⟨(s:List UInt8),(sep:List UInt8),(m:Int)⟩ r hr;obtain⟨hc,hr⟩:=N3 hr;have hc:=of_decide_eq_true hc;obtain rfl:=Option.some.inj hr;show AC P _ [.d (.str s),.d (.str sep)] [(0,.know (L2 (ρ.g 1) (.int .i64 m)))] (.tup [.d (.str (cut s sep).1),.d (.str (cut s sep).2.1),.d (.bool (cut s sep).2.2)]) [(0,some (.know (L2 (ρ.g 1) (.int .i64 m))))];refine AC.fresh (ks:=[(0,L2 (ρ.g 1) (.int .i64 m))]) λob w σ Z cargs ha hz hk => ?_;have hm:=Hs (hk 0 _ rfl)
 match cargs,ha with
 | [v1,v2],⟨h1,h2,_⟩ =>
  obtain rfl:=X0 h1;obtain rfl:=X0 h2;refine(Any.strings_Cut L ⟨s.toArray⟩ ⟨sep.toArray⟩ m w (by simpa [ByteArray.size] using hc) hm).mono λe w' ⟨he,n,hw⟩ => ?_;rw [W5,W5] at he;subst hw;exact⟨_,he,Mm (Below.refl _ _) _,Z,λ_ h=>h,λ_ h => .inl h,λ_ _=>⟨[_,_,_],rfl,⟨Cq _,Cq _,H3 _,trivial⟩⟩⟩
def B0k:Nat->Nat->List UInt8
 | 0,_=>[]
 | f+1,u=>if u<10 then [UInt8.ofNat (48+u)] else B0k f (u / 10)++[UInt8.ofNat (48+u % 10)]
theorem Sj:∀ (f u:Nat),u<10 ^ f->0<f->B0k f u=decDigits u
 | 0,_,_,h=>absurd h (Nat.lt_irrefl _)
 | f+1,u,h,_=>by
  rw [B0k,decDigits];split
  ·rfl
  ·rename_i hu;have h2:u / 10<10 ^ f:=by rw [Nat.pow_succ] at h;omega
   have h0:0<f:=by
    rcases Nat.eq_zero_or_pos f with e | e
    ·subst e;simp at h;omega
    ·exact e
   rw [Sj f (u / 10) h2 h0]
def G4 (n:Int):List UInt8:=if n<0 then 45 :: B0k 20 n.natAbs else B0k 20 n.toNat
def B0l (n:Int) (tab:List Int):Option (List UInt8):=chk (decide (-9223372036854775808<=n)&&decide (n<=9223372036854775807)&&decide (tab=pow10Tab)) (some (G4 n))
def B51 (f g:Nat):Sg typ:=⟨f,[.d (.int .i64) 0],[(0,.glob g (.arr 20 (.int .u64)) 1)],[.int .i64,.arr 20 (.int .u64)],[.str],.d .str 2,[(0,some (.glob g (.arr 20 (.int .u64)) 1))],λx=>B0l x.1 x.2⟩
theorem A5c {n:String} {k:IntKind} {m:Nat} {es:List Int} (hg:P.globalNamed n=some g) (h:(L2 g (.arr m 1 (es.map (eI k)))).holds Z w):TabIs P w n k es:=by
 obtain⟨_,cs,h1,⟨_,_,h2⟩,arr,t,p,h3,h4⟩:=h;have key:∀ (es:List Int) (cs:List Value),D.repL Z w (es.map (eI k)) cs->cs=es.map (Value.int k):=by
  intro es;induction es with
  | nil=>exact λcs h=>h
  | cons x es ih =>
   rintro cs ⟨c1,c2,rfl,q1,q2⟩;rw [show c1=[.int k x] from q1,ih c2 q2];rfl
 have hcs:=key es cs h2;subst hcs;unfold TabIs World.var?;rw [hg,Option.bind_some,h3];refine congrArg some ?_;apply Array.ext_getElem?;intro j;have e:((es.map λz=>Value.int k z).toArray)[j]? = (es.map (Value.int k))[j]? :=by simp
 rw [e]
 by_cases hj:j<arr.size
 ·have:=h1 j _ (List.getElem?_eq_getElem (by rw [<- h4];exact hj));rw [Nat.zero_add,cell_of_row w g j arr t p h3] at this;rw [this,List.getElem?_eq_getElem (by rw [<- h4];exact hj)]
 ·rw [Array.getElem?_eq_none (by omega),List.getElem?_eq_none (by rw [<- h4];omega)]
theorem A86 (L:LaysM.n171 P ρ) (hf:ρ.f 171=f) (hg:P.globalNamed "internal/strconv.uint64pow10" = some g):COk P (B51 f g):=by
 subst hf;rintro⟨(n:Int),(tab:List Int)⟩ r hr;obtain⟨hc,hr⟩:=N3 hr;simp only [Bool.and_eq_true,decide_eq_true_eq] at hc;obtain⟨⟨c1,c2⟩,rfl⟩:=hc;obtain rfl:=Option.some.inj hr;have e:G4 n=itoa n:=by
  have hp:(9223372036854775808:Nat)<10 ^ 20:=by decide
  unfold G4 itoa;split
  ·rw [Sj 20 _ (by omega) (by decide)]
  ·rw [Sj 20 _ (by omega) (by decide)]
 show AC P _ [.d (.int .i64 n)] [(0,.know (L2 g (.arr 20 1 (pow10Tab.map (eI .u64)))))] (.d (.str (G4 n))) [(0,some (.know (L2 g (.arr 20 1 (pow10Tab.map (eI .u64))))))];rw [e];refine AC.fresh (ks:=[(0,L2 g (.arr 20 1 (pow10Tab.map (eI .u64))))]) λob w σ Z cargs ha hz hk => ?_;have ht:=A5c hg (hk 0 _ rfl)
 match cargs,ha with
 | [v1],⟨h1,_⟩ =>
  obtain rfl:=E6 (D0.of h1 rfl);refine(Any.strconv_Itoa L n c1 c2 w ht).mono λe w' ⟨he,k,os,hw⟩ => ?_;subst hw;exact⟨_,he,Zl (Mm (Below.refl _ _) _) (Nat.le_refl _) _,Z,λ_ h=>h,λ_ h => .inl h,λ_ _=>Cq _⟩
def B0m (s:List UInt8):Option Int:=chk (decide (s.length<=LIM)) (match atoiAll s with
 | .ok v=>some v
 | _=>none)
def B52 (f:Nat):Sg typ:=⟨f,[.d .str 0],[],[.str],[.int .i64],.tup (.cons (.d (.int .i64) 1) (.cons (.cst 1) .nil)),[],λx=>B0m x⟩
theorem A87 (L:LaysC.n172 P ρ) (hf:ρ.f 172=f):COk P (B52 f):=by
 subst hf;intro(s:List UInt8) r hr;obtain⟨hc,hr⟩:=N3 hr;have hc:=of_decide_eq_true hc;have hl:LIM<=9223372036854775806:=by decide
 split at hr
 case h_2=>cases hr
 rename_i v hv;obtain rfl:=Option.some.inj hr;show AC P _ [.d (.str s)] [] (.tup [.d (.int .i64 v),.cst .nilIface]) [];refine AC.fresh (ks:=[]) λob w σ Z cargs ha hz _ => ?_
 match cargs,ha with
 | [v1],⟨h1,_⟩ =>
  obtain rfl:=X0 h1;refine(Any.strconv_Atoi_ok L ⟨s.toArray⟩ (by simp only [ByteArray.size,List.size_toArray];omega) v (by rw [W5];exact hv) w).mono λe w' ⟨he,hw⟩ => ?_;refine⟨_,he,?_,Z,λ_ h=>h,λ_ h => .inl h,λ_ _=>⟨[_,_],rfl,⟨L8 _ _,⟨⟨rfl,rfl⟩,.inr rfl⟩,trivial⟩⟩⟩;rcases hw with rfl | ⟨t,rfl⟩
  ·exact Below.refl _ _
  ·exact bytesWorld_below _ _ _
theorem Qm {Z:Nat->Prop} {w:World}:∀ {es:List D} {cs:List Value},(∀ e∈es,e.sz=1)->D.repL Z w es cs->cs.length=es.length∧∀ (i:Nat) e,es[i]? = some e->∃ v,cs[i]? = some v∧D.rep Z w e [v]
 | [],cs,_,h=>by cases h;exact⟨rfl,λi e h=>by simp at h⟩
 | x :: es,cs,hs,h=>by
  obtain⟨c1,c2,rfl,h1,h2⟩:=h;have hl:=D.rep_len x c1 h1;rw [hs x (List.mem_cons_self ..)] at hl
  match c1,hl with
  | [v],_ =>
   obtain⟨k1,k2⟩:=Qm (λe he=>hs e (List.mem_cons_of_mem _ he)) h2;refine⟨by simp [k1],λi e he => ?_⟩;cases i with
   | zero=>simp at he;subst he;exact⟨v,rfl,h1⟩
   | succ i=>exact k2 i e (by simpa using he)
theorem Qn {Z:Nat->Prop} {w:World} {v:Value} {xs:List Int} (hr:∀ x∈xs,0<=x∧x<256) (h:D.rep Z w (.list 1 (xs.map (eI .u8))) [v]):HoldsBytes w v (Lib.bytesOf xs):=by
 obtain⟨a,c,h1,_,_,h4⟩:=h;rw [List.length_map] at h1;refine⟨a,c,by rw [show v = .slice a xs.length c from by simpa using h1];simp [Lib.bytesOf],λha => ?_,λq hq i x hx => ?_⟩
 ·rcases h4 with h4 | ⟨b,o,e,_⟩
  ·rw [show xs=[] from by simpa using h4];rfl
  ·rw [ha] at e;cases e
 ·subst hq;unfold Lib.bytesOf at hx;rw [List.getElem?_map] at hx;cases hn:xs[i]? with
  | none=>rw [hn] at hx;cases hx
  | some n =>
   rw [hn] at hx;cases hx;rcases h4 with h4 | ⟨b,o,e,_,_,hrep⟩
   ·rw [show xs=[] from by simpa using h4] at hn;simp at hn
   ·cases e;obtain⟨cs,k1,k2⟩:=D.repE_get _ b o i (.int .u8 n) hrep (by rw [List.getElem?_map,hn];rfl);have:=k1 0 (.int .u8 n) (by rw [show cs=[.int .u8 n] from k2];rfl);have hn':=hr n (List.mem_of_getElem? hn);have e2:((UInt8.ofNat n.toNat).toNat:Int)=n:=by
     rw [UInt8.toNat_ofNat',Nat.mod_eq_of_lt (show n.toNat<2 ^ 8 by omega)];omega
    rw [e2,K6];rwa [Nat.mul_one,Nat.add_zero] at this
theorem Ka:∀ {xs ys:List Int},(∀ x∈xs,0<=x∧x<256)->(∀ x∈ys,0<=x∧x<256)->Lib.bytesOf xs=Lib.bytesOf ys->xs=ys
 | [],[],_,_,_=>rfl
 | [],_ :: _,_,_,h | _ :: _,[],_,_,h=>by simp [Lib.bytesOf] at h
 | x :: xs,y :: ys,hx,hy,h=>by
  simp only [Lib.bytesOf,List.map_cons,List.cons.injEq] at h;have h1:=hx x (List.mem_cons_self ..);have h2:=hy y (List.mem_cons_self ..);have h3:=congrArg UInt8.toNat h.1;rw [UInt8.toNat_ofNat',UInt8.toNat_ofNat',Nat.mod_eq_of_lt (show x.toNat<2 ^ 8 by omega),Nat.mod_eq_of_lt (show y.toNat<2 ^ 8 by omega)] at h3;rw [show x=y from by omega,Ka (λz hz=>hx z (List.mem_cons_of_mem _ hz)) (λz hz=>hy z (List.mem_cons_of_mem _ hz)) h.2]
theorem A5d (ls:List (List UInt8)):join ls []=ls.flatten:=by
 cases ls with
 | nil=>rfl
 | cons x r =>
  rw [join_cons];simp [joinTail]
theorem A5e (ls:List (List UInt8)):lens ls=ls.flatten.length:=by simp [lens,List.length_flatten]
def B0n (x:Int):Bool:=decide (0<=x)&&decide (x<256)
def Tz (xs:List (List Int)) (sep:List Int):Option (List Int) :=
 chk (sep.isEmpty&&decide (2<=xs.length)&&decide (xs.length<=LIM)&&decide (xs.flatten.length<=LIM)&&xs.flatten.all B0n) (some xs.flatten)
def B0o (f:Nat):Sg typ:=⟨f,[.d (.list (.list (.int .u8))) 0,.d (.list (.int .u8)) 1],[],[.list (.list (.int .u8)),.list (.int .u8)],[.list (.int .u8)],.d (.list (.int .u8)) 2,[],λx=>Tz x.1 x.2⟩
theorem A5f (L:SlLaysJ.n14 P ρ) (hf:ρ.f 14=f):COk P (B0o f):=by
 subst hf;rintro⟨(xs:List (List Int)),(sep:List Int)⟩ r hr;obtain⟨hc,hr⟩:=N3 hr;simp only [Bool.and_eq_true,decide_eq_true_eq,List.isEmpty_iff,List.all_eq_true,B0n] at hc;obtain⟨⟨⟨⟨rfl,c2⟩,c3⟩,c4⟩,c5⟩:=hc;have hl:LIM<=140737488355328:=by decide
 obtain rfl:=Option.some.inj hr;show AC P _ [.d (.list 1 (xs.map λl=>D.list 1 (l.map (eI .u8)))),.d (.list 1 [])] [] (.d (.list 1 (xs.flatten.map (eI .u8)))) [];refine AC.fresh (ks:=[]) λob w σ Z cargs ha hz _ => ?_
 match cargs,ha with
 | [v1,v2],⟨h1,h2,_⟩ =>
  have hin:∀ l∈xs,∀ x∈l,0<=x∧x<256:=λl hl x hx=>c5 x (List.mem_flatten.2 ⟨l,hl,hx⟩);obtain⟨a,c,k1,k2,_,k4⟩:=(And.left h1:D.rep Z w _ [v1]);rw [List.length_map] at k1 k2;rcases k4 with k4 | ⟨b,o,rfl,hzb,hs,hre⟩
  ·rw [show xs=[] from by simpa using k4] at c2;simp at c2
  ·obtain⟨vs,q1,q2⟩:=D.repL_of_repE _ b o hre hs;obtain⟨q3,q4⟩:=Qm hs q1;rw [List.length_map] at q3;have hv1:v1 = .slice (some ⟨b,o,none⟩) xs.length c:=by simpa using k1
   subst hv1;have hP:PartsAt w ⟨b,o,none⟩ vs (xs.map Lib.bytesOf):=by
    refine⟨by rw [q3,List.length_map],λi v hi=>by rw [K6];exact q2 i v hi,λi v l hi hl => ?_⟩;rw [List.getElem?_map] at hl;cases hx:xs[i]? with
    | none=>rw [hx] at hl;cases hl
    | some x =>
     rw [hx] at hl;cases hl;obtain⟨v',p1,p2⟩:=q4 i (.list 1 (x.map (eI .u8))) (by rw [List.getElem?_map,hx];rfl);obtain rfl:=Option.some.inj (p1.symm.trans hi);exact Qn (hin x (List.mem_of_getElem? hx)) p2
   have hS:HoldsBytes w v2 []:=Qn (xs:=[]) (λx hx=>by cases hx) (And.left h2);have hfl:(xs.map Lib.bytesOf).flatten=Lib.bytesOf xs.flatten:=by
    simp only [Lib.bytesOf,List.map_flatten,List.map_map];rfl
   have hlen:(Lib.bytesOf xs.flatten).length=xs.flatten.length:=List.length_map ..;refine(Any.bytes_Join_many L b o xs.length c vs (xs.map Lib.bytesOf) v2 [] w (by rw [List.length_map]) c2 hP k2 hS (by omega) (by rw [A5e,hfl,hlen,show([]:List UInt8).length=0 from rfl,Nat.zero_mul];omega)).mono λe w' ⟨v',he,hf,hb⟩ => ?_;rw [A5d,hfl] at hf;obtain⟨g,cap,zs,rfl,f1,f2,f3,f4,f5,f6,f7,_⟩:=hf;rw [hlen] at f6 f2;have hzs:zs.take xs.flatten.length=xs.flatten:=Ka (λx hx=>f5 x (List.mem_of_mem_take hx)) (λx hx=>c5 x hx) f6;have hm:maxLen<=9223372036854775807:=by decide
   by_cases h0:xs.flatten=[]
   ·refine⟨_,he,hb,Z,λ_ h=>h,λ_ h => .inl h,λob σ=>⟨⟨some ⟨g,0,none⟩,cap,by rw [List.length_map,hlen],by rw [List.length_map];exact f2,by omega,.inl (by rw [h0];rfl)⟩,.inr rfl⟩⟩
   ·have hpos:0<xs.flatten.length:=List.length_pos_iff.2 h0;have hg:=World.block_lt_of_cell? _ _ (f7 0 (by omega));refine⟨_,he,hb,λq=>Z q∨q=g,λ_ h => .inl h,λq h => ?_,λob σ=>⟨⟨some ⟨g,0,none⟩,cap,by rw [List.length_map,hlen],by rw [List.length_map];exact f2,by omega,.inr ⟨g,0,rfl,.inr rfl,λd hd => ?_,?_⟩⟩,.inr rfl⟩⟩
    ·rcases h with h | h
     ·exact .inl h
     ·subst h;exact .inr ⟨f1,hg⟩
    ·obtain⟨x,_,rfl⟩:=List.mem_map.1 hd;rfl
    ·refine D.repE_of_repL _ _ _ _ (repL_intsU (k:=.u8) xs.flatten) (λd hd => ?_) λj v hj => ?_
     ·obtain⟨x,_,rfl⟩:=List.mem_map.1 hd;rfl
     ·rw [Nat.zero_add];have hjl:j<xs.flatten.length:=by have:=(List.getElem?_eq_some_iff.1 hj).1;rwa [List.length_map] at this
      rw [f7 j (by omega)];have e1:zs.getD j 0=xs.flatten[j]:=by
       have:=congrArg (λl:List Int=>l[j]?) hzs;simp only [List.getElem?_take,if_pos hjl,List.getElem?_eq_getElem hjl] at this;simp [List.getD,this]
      rw [e1];rw [List.getElem?_map,List.getElem?_eq_getElem hjl] at hj;exact hj
where repL_intsU {Z:Nat->Prop} {w:World} {k:IntKind}:∀ es:List Int,D.repL Z w (es.map (eI k)) (es.map (Value.int k))
 | []=>rfl
 | x :: es=>⟨[.int k x],es.map (Value.int k),rfl,rfl,repL_intsU es⟩
def kCC (f:Nat) (t:TypeId):Sg typ:=⟨f,[.ptr 0 0 []],[(0,.box t (.st (.cons (.cst 0) (.cons .nils .nil))))],[],[],.tup .nil,[(0,some (.box t (.st (.cons (.ptr 0 0 []) (.cons .nils .nil)))))],λ_=>some ()⟩
theorem B5o (L:Lays.n240 P ρ) (X:Builder.X72 P ρ) {f:Nat} {t:TypeId} (hf:ρ.f 240=f) (ht:ρ.t 72=t):COk P (kCC f t):=by
 subst hf ht;intro x r _;show AC P _ [.ptr 0 0 []] [(0,.box (ρ.t 72) (.st [.cst (.pointer none),.nils]))] (.tup []) [(0,some (.box (ρ.t 72) (.st [.ptr 0 0 [],.nils])))];intro w σ Z cargs pre;have hob:T8 [(0,Ob.box (ρ.t 72) (.st [.cst (.pointer none),.nils]))] 0=some (some (.box (ρ.t 72) (.st [.cst (.pointer none),.nils]))):=rfl;have lv:live (T8 [(0,Ob.box (ρ.t 72) (.st [.cst (.pointer none),.nils]))]) 0:=⟨_,hob⟩;have only:∀ n,live (T8 [(0,Ob.box (ρ.t 72) (.st [.cst (.pointer none),.nils]))]) n->n=0:=λn ⟨o,ho⟩=>by
  unfold T8 at ho;rw [A4] at ho;split at ho
  ·rename_i e;exact e.symm
  ·simp [A1] at ho
 have only':∀ n,live (A1 [(0,some (Ob.box (ρ.t 72) (.st [.ptr 0 0 [],.nils])))]) n->n=0:=λn ⟨o,ho⟩=>by
  rw [A4] at ho;split at ho
  ·rename_i e;exact e.symm
  ·simp [A1] at ho
 match cargs,pre.args with
 | [v],⟨ha,_⟩ =>
  obtain⟨b,hσ,rfl⟩:=L5 (D0.of ha rfl) lv;obtain⟨b',cs,h1,h2,h3,h4,h5⟩:=pre.obj 0 _ hob;obtain rfl:=Option.some.inj (hσ.symm.trans h1);obtain⟨c1,c2,e1,_,_,e4,c3,c4,e5,_,_,e6,e7⟩:=(show V.repS _ σ Z w [.cst (.pointer none),.nils] cs.toList from h5);have e4:c1=[.pointer none]:=e4.1;have e6:c3=[.slice none 0 0]:=e6;have e7:c4=[]:=e7;subst e4 e6 e7;rw [e5] at e1;have hcs:cs = #[.pointer none,.slice none 0 0]:=by
   have:=congrArg List.toArray e1;simpa using this
  subst hcs;have hlt:b<w.heap.size:=(Array.getElem?_eq_some_iff.1 h2).1;refine(Any.Builder_copyCheck_fresh L X b w (by rw [cell_of_row w b 0 _ _ _ h2];rfl) (by simp [World.shape?,h2]) (by simp [World.frozen?,h2])).mono λe w' ⟨he,hw⟩ => ?_;have hw':w'.heap[b]? = some (.cells #[.pointer (some ⟨b,0,none⟩),.slice none 0 0] (ρ.t 72) (0,0)):=by
   rw [hw];unfold World.setCell;simp only [Array.getElem?_modify,if_true,h2,Option.map_some];rfl
  have old:∀ k,k≠b->w'.heap[k]? = w.heap[k]? :=λk hk=>by rw [hw];exact Below.heap_setCell w _ _ k hk
  have hsz:w'.heap.size=w.heap.size:=by rw [hw];simp [World.setCell]
  refine⟨_,σ,Z,he,⟨⟨[],rfl,trivial⟩,λn o hn => ?_,λn m q hn hm _ _=>by rw [only' n hn,only' m hm],λ_ _ _ _=>rfl,λn q _ hl _ hq => ?_,λn q hl hq => ?_,λq hq=>by rw [hsz];exact pre.zlt q hq,λ_ h=>h,λ_ h => .inl h,by rw [hw];rfl,by rw [hw];rfl,by rw [hw];rfl,by rw [hsz];exact Nat.le_refl _,λk _ hk=>old k λe=>hk ⟨0,lv,by rw [hσ,e]⟩⟩⟩
  ·obtain rfl:=only' n ⟨o,hn⟩;have:o = .box (ρ.t 72) (.st [.ptr 0 0 [],.nils]):=by
    rw [A4,if_pos rfl] at hn;exact(Option.some.inj (Option.some.inj hn)).symm
   subst this;refine⟨b,_,hσ,hw',by simp [Value.oneCell'],rfl,⟨[.pointer (some ⟨b,0,none⟩)],[.slice none 0 0],rfl,rfl,by simp [Value.oneCell'],⟨by simp [used,A4],λ_=>⟨b,hσ,rfl⟩⟩,⟨[.slice none 0 0],[],rfl,rfl,by simp [Value.oneCell'],rfl,rfl⟩⟩⟩
  ·obtain rfl:=only n hl;obtain rfl:=Option.some.inj (hσ.symm.trans hq);simp [World.shape?,hw',h2]
  ·obtain rfl:=only' n hl;obtain rfl:=Option.some.inj (hσ.symm.trans hq);exact⟨pre.blk 0 b lv hσ,.inr ⟨0,lv,hσ⟩⟩
end Go.Vc
set_option maxRecDepth 100000
namespace Go.Proofs.YtalojkjpjdcibaaGreatDoor
open Go Go.Vc Go.Shelf Go.Proofs
def Zm:Go.Shelf.Ren:=⟨fun | 156=>115 | 165=>175 | 166=>114 | 169=>122 | 240=>174 | 241=>216 | 276=>215 | 277=>98 | n=>n,fun | 31=>102 | 9=>9 | 3=>3 | 4=>4 | 0=>0 | 20=>20 | 72=>183 | 76=>186 | 70=>181 | 37=>52 | 75=>185 | 127=>245 | 164=>273 | 5=>5 | 80=>141 | n=>n,fun | n=>n⟩
theorem lJ:Go.Proofs.Lays.n156 Tryz.prog Zm:={
 mixed:=by kernel_rfl
 f156:=Tryz.func115.trans (congrArg some (by kernel_rfl))
 f165:=Tryz.func175.trans (congrArg some (by kernel_rfl))
 f166:=Tryz.func114.trans (congrArg some (by kernel_rfl))
 f169:=Tryz.func122.trans (congrArg some (by kernel_rfl))
 f240:=Tryz.func174.trans (congrArg some (by kernel_rfl))
 f241:=Tryz.func216.trans (congrArg some (by kernel_rfl))
 f276:=Tryz.func215.trans (congrArg some (by kernel_rfl))
 f277:=Tryz.func98.trans (congrArg some (by kernel_rfl))
 t0:=Tryz.underlying0
 a0:=Tryz.isAgg0
 z0:=Tryz.sizeOf0
 v0:=Tryz.zeroValue0
 t3:=Tryz.underlying3
 a3:=Tryz.isAgg3
 z3:=Tryz.sizeOf3
 v3:=Tryz.zeroValue3
 t4:=Tryz.underlying4
 a4:=Tryz.isAgg4
 z4:=Tryz.sizeOf4
 v4:=Tryz.zeroValue4
 t9:=Tryz.underlying9
 a9:=Tryz.isAgg9
 z9:=Tryz.sizeOf9
 v9:=Tryz.zeroValue9
 t20:=Tryz.underlying20
 a20:=Tryz.isAgg20
 z20:=Tryz.sizeOf20
 v20:=Tryz.zeroValue20
 t31:=Tryz.underlying102
 a31:=Tryz.isAgg102
 z31:=Tryz.sizeOf102
 v31:=Tryz.zeroValue102
 t37:=Tryz.underlying52
 a37:=Tryz.isAgg52
 z37:=Tryz.sizeOf52
 v37:=Tryz.zeroValue52
 t70:=Tryz.underlying181
 a70:=Tryz.isAgg181
 z70:=Tryz.sizeOf181
 v70:=Tryz.zeroValue181
 t72:=Tryz.underlying183
 a72:=Tryz.isAgg183
 z72:=Tryz.sizeOf183
 v72:=Tryz.zeroValue183
 t75:=Tryz.underlying185
 a75:=Tryz.isAgg185
 z75:=Tryz.sizeOf185
 v75:=Tryz.zeroValue185
 t76:=Tryz.underlying186
 a76:=Tryz.isAgg186
 z76:=Tryz.sizeOf186
 v76:=Tryz.zeroValue186
 t127:=Tryz.underlying245
 a127:=Tryz.isAgg245
 z127:=Tryz.sizeOf245
 v127:=Tryz.zeroValue245
 t164:=Tryz.underlying273
 a164:=Tryz.isAgg273
 z164:=Tryz.sizeOf273
 v164:=Tryz.zeroValue273 }
def B5p:Go.Shelf.Ren:=⟨fun | 146=>65 | 221=>123 | 268=>180 | 138=>181 | 143=>182 | 195=>222 | 197=>223 | 218=>224 | 219=>225 | 260=>252 | 217=>253 | 225=>254 | 224=>255 | 267=>256 | 266=>272 | 314=>273 | n=>n,fun | 9=>9 | 31=>102 | 3=>3 | 4=>4 | 0=>0 | 105=>285 | 21=>21 | 5=>5 | 46=>119 | 119=>319 | 139=>322 | 138=>321 | 146=>323 | 51=>316 | n=>n,fun | 1=>1 | 3=>3 | 4=>4 | n=>n⟩
theorem lS:Go.Proofs.LaysM.n146 Tryz.prog B5p:={
 mixed:=by kernel_rfl
 f138:=Tryz.func181.trans (congrArg some (by kernel_rfl))
 f143:=Tryz.func182.trans (congrArg some (by kernel_rfl))
 f146:=Tryz.func65.trans (congrArg some (by kernel_rfl))
 f195:=Tryz.func222.trans (congrArg some (by kernel_rfl))
 f197:=Tryz.func223.trans (congrArg some (by kernel_rfl))
 f217:=Tryz.func253.trans (congrArg some (by kernel_rfl))
 f218:=Tryz.func224.trans (congrArg some (by kernel_rfl))
 f219:=Tryz.func225.trans (congrArg some (by kernel_rfl))
 f221:=Tryz.func123.trans (congrArg some (by kernel_rfl))
 f224:=Tryz.func255.trans (congrArg some (by kernel_rfl))
 f225:=Tryz.func254.trans (congrArg some (by kernel_rfl))
 f260:=Tryz.func252.trans (congrArg some (by kernel_rfl))
 f266:=Tryz.func272.trans (congrArg some (by kernel_rfl))
 f267:=Tryz.func256.trans (congrArg some (by kernel_rfl))
 f268:=Tryz.func180.trans (congrArg some (by kernel_rfl))
 f314:=Tryz.func273.trans (congrArg some (by kernel_rfl))
 t0:=Tryz.underlying0
 a0:=Tryz.isAgg0
 z0:=Tryz.sizeOf0
 v0:=Tryz.zeroValue0
 t3:=Tryz.underlying3
 a3:=Tryz.isAgg3
 z3:=Tryz.sizeOf3
 v3:=Tryz.zeroValue3
 t4:=Tryz.underlying4
 a4:=Tryz.isAgg4
 z4:=Tryz.sizeOf4
 v4:=Tryz.zeroValue4
 t5:=Tryz.underlying5
 a5:=Tryz.isAgg5
 z5:=Tryz.sizeOf5
 v5:=Tryz.zeroValue5
 t9:=Tryz.underlying9
 a9:=Tryz.isAgg9
 z9:=Tryz.sizeOf9
 v9:=Tryz.zeroValue9
 t21:=Tryz.underlying21
 a21:=Tryz.isAgg21
 z21:=Tryz.sizeOf21
 v21:=Tryz.zeroValue21
 t31:=Tryz.underlying102
 a31:=Tryz.isAgg102
 z31:=Tryz.sizeOf102
 v31:=Tryz.zeroValue102
 t46:=Tryz.underlying119
 a46:=Tryz.isAgg119
 z46:=Tryz.sizeOf119
 v46:=Tryz.zeroValue119
 t51:=Tryz.underlying316
 a51:=Tryz.isAgg316
 z51:=Tryz.sizeOf316
 v51:=Tryz.zeroValue316
 t105:=Tryz.underlying285
 a105:=Tryz.isAgg285
 z105:=Tryz.sizeOf285
 v105:=Tryz.zeroValue285
 t119:=Tryz.underlying319
 a119:=Tryz.isAgg319
 z119:=Tryz.sizeOf319
 t138:=Tryz.underlying321
 a138:=Tryz.isAgg321
 z138:=Tryz.sizeOf321
 v138:=Tryz.zeroValue321
 t139:=Tryz.underlying322
 a139:=Tryz.isAgg322
 z139:=Tryz.sizeOf322
 v139:=Tryz.zeroValue322
 t146:=Tryz.underlying323
 a146:=Tryz.isAgg323
 z146:=Tryz.sizeOf323
 v146:=Tryz.zeroValue323
 g1:=by kernel_rfl
 g3:=by kernel_rfl
 g4:=by kernel_rfl
 i0:=by kernel_rfl
 i3:=by kernel_rfl
 i4:=by kernel_rfl
 i5:=by kernel_rfl
 i9:=by kernel_rfl
 i21:=by kernel_rfl
 i31:=by kernel_rfl
 i46:=by kernel_rfl
 i51:=by kernel_rfl
 i105:=by kernel_rfl
 i138:=by kernel_rfl
 i139:=by kernel_rfl
 i146:=by kernel_rfl
 m1:=by kernel_rfl
 s1_3:=λw h=>Go.Proofs.cell_of_shapedOpen_int (zero:=#[.int .i64 0]) (t:=3) h (of_decide_eq_true (by kernel_rfl)) (by kernel_rfl) rfl (by kernel_rfl) (by kernel_rfl) Tryz.underlying3
 m3:=by kernel_rfl
 m4:=by kernel_rfl }
def B5q:Go.Shelf.Ren:=⟨fun | 144=>227 | 143=>182 | 219=>225 | 217=>253 | 225=>254 | 224=>255 | 267=>256 | 266=>272 | 314=>273 | n=>n,fun | 9=>9 | 4=>4 | 3=>3 | 5=>5 | 46=>119 | 146=>323 | 51=>316 | n=>n,fun | 1=>1 | n=>n⟩
theorem lH:Go.Proofs.Lays.n144 Tryz.prog B5q:={
 mixed:=by kernel_rfl
 f143:=Tryz.func182.trans (congrArg some (by kernel_rfl))
 f144:=Tryz.func227.trans (congrArg some (by kernel_rfl))
 f217:=Tryz.func253.trans (congrArg some (by kernel_rfl))
 f219:=Tryz.func225.trans (congrArg some (by kernel_rfl))
 f224:=Tryz.func255.trans (congrArg some (by kernel_rfl))
 f225:=Tryz.func254.trans (congrArg some (by kernel_rfl))
 f266:=Tryz.func272.trans (congrArg some (by kernel_rfl))
 f267:=Tryz.func256.trans (congrArg some (by kernel_rfl))
 f314:=Tryz.func273.trans (congrArg some (by kernel_rfl))
 t3:=Tryz.underlying3
 a3:=Tryz.isAgg3
 z3:=Tryz.sizeOf3
 v3:=Tryz.zeroValue3
 t4:=Tryz.underlying4
 a4:=Tryz.isAgg4
 z4:=Tryz.sizeOf4
 v4:=Tryz.zeroValue4
 t5:=Tryz.underlying5
 a5:=Tryz.isAgg5
 z5:=Tryz.sizeOf5
 v5:=Tryz.zeroValue5
 t9:=Tryz.underlying9
 a9:=Tryz.isAgg9
 z9:=Tryz.sizeOf9
 v9:=Tryz.zeroValue9
 t46:=Tryz.underlying119
 a46:=Tryz.isAgg119
 z46:=Tryz.sizeOf119
 v46:=Tryz.zeroValue119
 t51:=Tryz.underlying316
 a51:=Tryz.isAgg316
 z51:=Tryz.sizeOf316
 v51:=Tryz.zeroValue316
 t146:=Tryz.underlying323
 a146:=Tryz.isAgg323
 z146:=Tryz.sizeOf323
 v146:=Tryz.zeroValue323
 g1:=by kernel_rfl }
def B5r:Go.Shelf.Ren:=⟨fun | 145=>183 | 220=>226 | 219=>225 | 217=>253 | 225=>254 | 224=>255 | 267=>256 | 266=>272 | 314=>273 | n=>n,fun | 9=>9 | 4=>4 | 59=>248 | 3=>3 | 5=>5 | 46=>119 | 146=>323 | 51=>316 | n=>n,fun | 1=>1 | n=>n⟩
theorem lC:Go.Proofs.Lays.n145 Tryz.prog B5r:={
 mixed:=by kernel_rfl
 f145:=Tryz.func183.trans (congrArg some (by kernel_rfl))
 f217:=Tryz.func253.trans (congrArg some (by kernel_rfl))
 f219:=Tryz.func225.trans (congrArg some (by kernel_rfl))
 f220:=Tryz.func226.trans (congrArg some (by kernel_rfl))
 f224:=Tryz.func255.trans (congrArg some (by kernel_rfl))
 f225:=Tryz.func254.trans (congrArg some (by kernel_rfl))
 f266:=Tryz.func272.trans (congrArg some (by kernel_rfl))
 f267:=Tryz.func256.trans (congrArg some (by kernel_rfl))
 f314:=Tryz.func273.trans (congrArg some (by kernel_rfl))
 t3:=Tryz.underlying3
 a3:=Tryz.isAgg3
 z3:=Tryz.sizeOf3
 v3:=Tryz.zeroValue3
 t4:=Tryz.underlying4
 a4:=Tryz.isAgg4
 z4:=Tryz.sizeOf4
 v4:=Tryz.zeroValue4
 t5:=Tryz.underlying5
 a5:=Tryz.isAgg5
 z5:=Tryz.sizeOf5
 v5:=Tryz.zeroValue5
 t9:=Tryz.underlying9
 a9:=Tryz.isAgg9
 z9:=Tryz.sizeOf9
 v9:=Tryz.zeroValue9
 t46:=Tryz.underlying119
 a46:=Tryz.isAgg119
 z46:=Tryz.sizeOf119
 v46:=Tryz.zeroValue119
 t51:=Tryz.underlying316
 a51:=Tryz.isAgg316
 z51:=Tryz.sizeOf316
 v51:=Tryz.zeroValue316
 t59:=Tryz.underlying248
 a59:=Tryz.isAgg248
 z59:=Tryz.sizeOf248
 v59:=Tryz.zeroValue248
 t146:=Tryz.underlying323
 a146:=Tryz.isAgg323
 z146:=Tryz.sizeOf323
 v146:=Tryz.zeroValue323
 g1:=by kernel_rfl }
def B5s:Go.Shelf.Ren:=⟨fun | 171=>118 | 243=>178 | 246=>221 | 283=>248 | 284=>249 | 285=>250 | 286=>251 | 129=>268 | 317=>267 | 318=>269 | 319=>270 | 320=>271 | 337=>283 | 338=>284 | n=>n,fun | 3=>3 | 9=>9 | 2=>2 | 4=>4 | 171=>305 | 0=>0 | 53=>27 | 37=>52 | 5=>5 | 173=>308 | 212=>315 | 51=>316 | 20=>20 | 213=>317 | 46=>119 | 232=>341 | 233=>342 | n=>n,fun | 17=>2 | 18=>7 | 19=>8 | n=>n⟩
theorem lI:Go.Proofs.LaysM.n171 Tryz.prog B5s:={
 mixed:=by kernel_rfl
 f129:=Tryz.func268.trans (congrArg some (by kernel_rfl))
 f171:=Tryz.func118.trans (congrArg some (by kernel_rfl))
 f243:=Tryz.func178.trans (congrArg some (by kernel_rfl))
 f246:=Tryz.func221.trans (congrArg some (by kernel_rfl))
 f283:=Tryz.func248.trans (congrArg some (by kernel_rfl))
 f284:=Tryz.func249.trans (congrArg some (by kernel_rfl))
 f285:=Tryz.func250.trans (congrArg some (by kernel_rfl))
 f286:=Tryz.func251.trans (congrArg some (by kernel_rfl))
 f317:=Tryz.func267.trans (congrArg some (by kernel_rfl))
 f318:=Tryz.func269.trans (congrArg some (by kernel_rfl))
 f319:=Tryz.func270.trans (congrArg some (by kernel_rfl))
 f320:=Tryz.func271.trans (congrArg some (by kernel_rfl))
 f337:=Tryz.func283.trans (congrArg some (by kernel_rfl))
 f338:=Tryz.func284.trans (congrArg some (by kernel_rfl))
 t0:=Tryz.underlying0
 a0:=Tryz.isAgg0
 z0:=Tryz.sizeOf0
 v0:=Tryz.zeroValue0
 t2:=Tryz.underlying2
 a2:=Tryz.isAgg2
 z2:=Tryz.sizeOf2
 v2:=Tryz.zeroValue2
 t3:=Tryz.underlying3
 a3:=Tryz.isAgg3
 z3:=Tryz.sizeOf3
 v3:=Tryz.zeroValue3
 t4:=Tryz.underlying4
 a4:=Tryz.isAgg4
 z4:=Tryz.sizeOf4
 v4:=Tryz.zeroValue4
 t5:=Tryz.underlying5
 a5:=Tryz.isAgg5
 z5:=Tryz.sizeOf5
 v5:=Tryz.zeroValue5
 t9:=Tryz.underlying9
 a9:=Tryz.isAgg9
 z9:=Tryz.sizeOf9
 v9:=Tryz.zeroValue9
 t20:=Tryz.underlying20
 a20:=Tryz.isAgg20
 z20:=Tryz.sizeOf20
 v20:=Tryz.zeroValue20
 t37:=Tryz.underlying52
 a37:=Tryz.isAgg52
 z37:=Tryz.sizeOf52
 v37:=Tryz.zeroValue52
 t46:=Tryz.underlying119
 a46:=Tryz.isAgg119
 z46:=Tryz.sizeOf119
 v46:=Tryz.zeroValue119
 t51:=Tryz.underlying316
 a51:=Tryz.isAgg316
 z51:=Tryz.sizeOf316
 v51:=Tryz.zeroValue316
 t53:=Tryz.underlying27
 a53:=Tryz.isAgg27
 z53:=Tryz.sizeOf27
 v53:=Tryz.zeroValue27
 t171:=Tryz.underlying305
 a171:=Tryz.isAgg305
 z171:=Tryz.sizeOf305
 v171:=Tryz.zeroValue305
 t173:=Tryz.underlying308
 a173:=Tryz.isAgg308
 z173:=Tryz.sizeOf308
 v173:=Tryz.zeroValue308
 t212:=Tryz.underlying315
 a212:=Tryz.isAgg315
 z212:=Tryz.sizeOf315
 v212:=Tryz.zeroValue315
 t213:=Tryz.underlying317
 a213:=Tryz.isAgg317
 z213:=Tryz.sizeOf317
 t232:=Tryz.underlying341
 a232:=Tryz.isAgg341
 z232:=Tryz.sizeOf341
 v232:=Tryz.zeroValue341
 t233:=Tryz.underlying342
 a233:=Tryz.isAgg342
 z233:=Tryz.sizeOf342
 v233:=Tryz.zeroValue342
 g17:=by kernel_rfl
 g18:=by kernel_rfl
 g19:=by kernel_rfl
 i0:=by kernel_rfl
 i2:=by kernel_rfl
 i3:=by kernel_rfl
 i4:=by kernel_rfl
 i5:=by kernel_rfl
 i9:=by kernel_rfl
 i20:=by kernel_rfl
 i37:=by kernel_rfl
 i46:=by kernel_rfl
 i51:=by kernel_rfl
 i53:=by kernel_rfl
 i171:=by kernel_rfl
 i173:=by kernel_rfl
 i212:=by kernel_rfl
 i232:=by kernel_rfl
 i233:=by kernel_rfl
 m17:=by kernel_rfl
 m18:=by kernel_rfl
 m19:=by kernel_rfl }
def B5t:Go.Shelf.Ren:=⟨fun | 172=>230 | 244=>258 | 245=>259 | 247=>275 | 279=>276 | 280=>277 | 281=>278 | 282=>279 | 287=>285 | 316=>286 | 171=>118 | 205=>287 | 321=>289 | 322=>290 | 243=>178 | 246=>221 | 283=>248 | 284=>249 | 285=>250 | 286=>251 | 129=>268 | 317=>267 | 318=>269 | 319=>270 | 320=>271 | 337=>283 | 338=>284 | n=>n,fun | 9=>9 | 3=>3 | 75=>185 | 76=>186 | 4=>4 | 5=>5 | 167=>327 | 37=>52 | 0=>0 | 85=>328 | 2=>2 | 168=>330 | 53=>27 | 175=>335 | 46=>119 | 210=>338 | 127=>245 | 145=>346 | 143=>344 | 21=>21 | 171=>305 | 173=>308 | 212=>315 | 51=>316 | 20=>20 | 213=>317 | 232=>341 | 233=>342 | 80=>141 | n=>n,fun | 15=>5 | 16=>6 | 17=>2 | 18=>7 | 19=>8 | n=>n⟩
theorem lA:Go.Proofs.LaysC.n172 Tryz.prog B5t:={
 mixed:=by kernel_rfl
 f129:=Tryz.func268.trans (congrArg some (by kernel_rfl))
 f171:=Tryz.func118.trans (congrArg some (by kernel_rfl))
 f172:=Tryz.func230.trans (congrArg some (by kernel_rfl))
 f205:=Tryz.func287.trans (congrArg some (by kernel_rfl))
 f243:=Tryz.func178.trans (congrArg some (by kernel_rfl))
 f244:=Tryz.func258.trans (congrArg some (by kernel_rfl))
 f245:=Tryz.func259.trans (congrArg some (by kernel_rfl))
 f246:=Tryz.func221.trans (congrArg some (by kernel_rfl))
 f247:=Tryz.func275.trans (congrArg some (by kernel_rfl))
 f279:=Tryz.func276.trans (congrArg some (by kernel_rfl))
 f280:=Tryz.func277.trans (congrArg some (by kernel_rfl))
 f281:=Tryz.func278.trans (congrArg some (by kernel_rfl))
 f282:=Tryz.func279.trans (congrArg some (by kernel_rfl))
 f283:=Tryz.func248.trans (congrArg some (by kernel_rfl))
 f284:=Tryz.func249.trans (congrArg some (by kernel_rfl))
 f285:=Tryz.func250.trans (congrArg some (by kernel_rfl))
 f286:=Tryz.func251.trans (congrArg some (by kernel_rfl))
 f287:=Tryz.func285.trans (congrArg some (by kernel_rfl))
 f316:=Tryz.func286.trans (congrArg some (by kernel_rfl))
 f317:=Tryz.func267.trans (congrArg some (by kernel_rfl))
 f318:=Tryz.func269.trans (congrArg some (by kernel_rfl))
 f319:=Tryz.func270.trans (congrArg some (by kernel_rfl))
 f320:=Tryz.func271.trans (congrArg some (by kernel_rfl))
 f321:=Tryz.func289.trans (congrArg some (by kernel_rfl))
 f322:=Tryz.func290.trans (congrArg some (by kernel_rfl))
 f337:=Tryz.func283.trans (congrArg some (by kernel_rfl))
 f338:=Tryz.func284.trans (congrArg some (by kernel_rfl))
 t0:=Tryz.underlying0
 a0:=Tryz.isAgg0
 z0:=Tryz.sizeOf0
 v0:=Tryz.zeroValue0
 t2:=Tryz.underlying2
 a2:=Tryz.isAgg2
 z2:=Tryz.sizeOf2
 v2:=Tryz.zeroValue2
 t3:=Tryz.underlying3
 a3:=Tryz.isAgg3
 z3:=Tryz.sizeOf3
 v3:=Tryz.zeroValue3
 t4:=Tryz.underlying4
 a4:=Tryz.isAgg4
 z4:=Tryz.sizeOf4
 v4:=Tryz.zeroValue4
 t5:=Tryz.underlying5
 a5:=Tryz.isAgg5
 z5:=Tryz.sizeOf5
 v5:=Tryz.zeroValue5
 t9:=Tryz.underlying9
 a9:=Tryz.isAgg9
 z9:=Tryz.sizeOf9
 v9:=Tryz.zeroValue9
 t20:=Tryz.underlying20
 a20:=Tryz.isAgg20
 z20:=Tryz.sizeOf20
 v20:=Tryz.zeroValue20
 t21:=Tryz.underlying21
 a21:=Tryz.isAgg21
 z21:=Tryz.sizeOf21
 v21:=Tryz.zeroValue21
 t37:=Tryz.underlying52
 a37:=Tryz.isAgg52
 z37:=Tryz.sizeOf52
 v37:=Tryz.zeroValue52
 t46:=Tryz.underlying119
 a46:=Tryz.isAgg119
 z46:=Tryz.sizeOf119
 v46:=Tryz.zeroValue119
 t51:=Tryz.underlying316
 a51:=Tryz.isAgg316
 z51:=Tryz.sizeOf316
 v51:=Tryz.zeroValue316
 t53:=Tryz.underlying27
 a53:=Tryz.isAgg27
 z53:=Tryz.sizeOf27
 v53:=Tryz.zeroValue27
 t75:=Tryz.underlying185
 a75:=Tryz.isAgg185
 z75:=Tryz.sizeOf185
 v75:=Tryz.zeroValue185
 t76:=Tryz.underlying186
 a76:=Tryz.isAgg186
 z76:=Tryz.sizeOf186
 v76:=Tryz.zeroValue186
 t85:=Tryz.underlying328
 a85:=Tryz.isAgg328
 z85:=Tryz.sizeOf328
 v85:=Tryz.zeroValue328
 t127:=Tryz.underlying245
 a127:=Tryz.isAgg245
 z127:=Tryz.sizeOf245
 v127:=Tryz.zeroValue245
 t143:=Tryz.underlying344
 a143:=Tryz.isAgg344
 z143:=Tryz.sizeOf344
 v143:=Tryz.zeroValue344
 t145:=Tryz.underlying346
 a145:=Tryz.isAgg346
 z145:=Tryz.sizeOf346
 v145:=Tryz.zeroValue346
 t167:=Tryz.underlying327
 a167:=Tryz.isAgg327
 z167:=Tryz.sizeOf327
 v167:=Tryz.zeroValue327
 t168:=Tryz.underlying330
 a168:=Tryz.isAgg330
 z168:=Tryz.sizeOf330
 v168:=Tryz.zeroValue330
 t171:=Tryz.underlying305
 a171:=Tryz.isAgg305
 z171:=Tryz.sizeOf305
 v171:=Tryz.zeroValue305
 t173:=Tryz.underlying308
 a173:=Tryz.isAgg308
 z173:=Tryz.sizeOf308
 v173:=Tryz.zeroValue308
 t175:=Tryz.underlying335
 a175:=Tryz.isAgg335
 z175:=Tryz.sizeOf335
 v175:=Tryz.zeroValue335
 t210:=Tryz.underlying338
 a210:=Tryz.isAgg338
 z210:=Tryz.sizeOf338
 v210:=Tryz.zeroValue338
 t212:=Tryz.underlying315
 a212:=Tryz.isAgg315
 z212:=Tryz.sizeOf315
 v212:=Tryz.zeroValue315
 t213:=Tryz.underlying317
 a213:=Tryz.isAgg317
 z213:=Tryz.sizeOf317
 t232:=Tryz.underlying341
 a232:=Tryz.isAgg341
 z232:=Tryz.sizeOf341
 v232:=Tryz.zeroValue341
 t233:=Tryz.underlying342
 a233:=Tryz.isAgg342
 z233:=Tryz.sizeOf342
 v233:=Tryz.zeroValue342
 g15:=by kernel_rfl
 g16:=by kernel_rfl
 g17:=by kernel_rfl
 g18:=by kernel_rfl
 g19:=by kernel_rfl
 t80:=Tryz.underlying141
 a80:=Tryz.isAgg141
 z80:=Tryz.sizeOf141
 v80:=Tryz.zeroValue141
 i0:=by kernel_rfl
 i2:=by kernel_rfl
 i3:=by kernel_rfl
 i4:=by kernel_rfl
 i5:=by kernel_rfl
 i9:=by kernel_rfl
 i20:=by kernel_rfl
 i21:=by kernel_rfl
 i37:=by kernel_rfl
 i46:=by kernel_rfl
 i51:=by kernel_rfl
 i53:=by kernel_rfl
 i75:=by kernel_rfl
 i76:=by kernel_rfl
 i80:=by kernel_rfl
 i85:=by kernel_rfl
 i127:=by kernel_rfl
 i143:=by kernel_rfl
 i145:=by kernel_rfl
 i167:=by kernel_rfl
 i168:=by kernel_rfl
 i171:=by kernel_rfl
 i173:=by kernel_rfl
 i175:=by kernel_rfl
 i210:=by kernel_rfl
 i212:=by kernel_rfl
 i232:=by kernel_rfl
 i233:=by kernel_rfl
 m15:=by kernel_rfl
 m16:=by kernel_rfl
 m17:=by kernel_rfl
 m18:=by kernel_rfl
 m19:=by kernel_rfl
 c0:=by kernel_rfl
 c2:=by kernel_rfl
 c3:=by kernel_rfl
 c4:=by kernel_rfl
 c5:=by kernel_rfl
 c9:=by kernel_rfl
 c20:=by kernel_rfl
 c21:=by kernel_rfl
 c37:=by kernel_rfl
 c46:=by kernel_rfl
 c51:=by kernel_rfl
 c53:=by kernel_rfl
 c75:=by kernel_rfl
 c76:=by kernel_rfl
 c80:=by kernel_rfl
 c85:=by kernel_rfl
 c127:=by kernel_rfl
 c143:=by kernel_rfl
 c145:=by kernel_rfl
 c167:=by kernel_rfl
 c168:=by kernel_rfl
 c171:=by kernel_rfl
 c173:=by kernel_rfl
 c175:=by kernel_rfl
 c210:=by kernel_rfl
 c212:=by kernel_rfl
 c213:=by kernel_rfl
 c232:=by kernel_rfl
 c233:=by kernel_rfl }
def B5u:Go.Shelf.Ren:=⟨fun | 14=>53 | 15=>98 | n=>n,fun | 26=>124 | 22=>52 | 3=>3 | 4=>4 | 0=>0 | 9=>9 | 20=>20 | 5=>5 | n=>n,fun | n=>n⟩
theorem lB:Go.Proofs.SlLaysJ.n14 Tryz.prog B5u:={
 mixed:=by kernel_rfl
 f14:=Tryz.func53.trans (congrArg some (by kernel_rfl))
 f15:=Tryz.func98.trans (congrArg some (by kernel_rfl))
 t0:=Tryz.underlying0
 a0:=Tryz.isAgg0
 z0:=Tryz.sizeOf0
 v0:=Tryz.zeroValue0
 t3:=Tryz.underlying3
 a3:=Tryz.isAgg3
 z3:=Tryz.sizeOf3
 v3:=Tryz.zeroValue3
 t4:=Tryz.underlying4
 a4:=Tryz.isAgg4
 z4:=Tryz.sizeOf4
 v4:=Tryz.zeroValue4
 t9:=Tryz.underlying9
 a9:=Tryz.isAgg9
 z9:=Tryz.sizeOf9
 v9:=Tryz.zeroValue9
 t20:=Tryz.underlying20
 a20:=Tryz.isAgg20
 z20:=Tryz.sizeOf20
 v20:=Tryz.zeroValue20
 t22:=Tryz.underlying52
 a22:=Tryz.isAgg52
 z22:=Tryz.sizeOf52
 v22:=Tryz.zeroValue52
 t26:=Tryz.underlying124
 a26:=Tryz.isAgg124
 z26:=Tryz.sizeOf124
 v26:=Tryz.zeroValue124
 t5:=Tryz.underlying5
 z5:=Tryz.sizeOf5
 i5:=by kernel_rfl }
theorem xJ:Builder.Extra Tryz.prog Zm where
 sizeBuilder:=by kernel_rfl
 liesBuilder:=by kernel_rfl
 t5:=Tryz.underlying5
 a5:=Tryz.isAgg5
 z5:=Tryz.sizeOf5
 v5:=Tryz.zeroValue5
 infoByte:=by kernel_rfl
 cellsByte:=by kernel_rfl
 sizeByte:=by kernel_rfl
 neB5:=by decide
noncomputable def C2v:Sg typ:=B50 115
theorem A64:COk Tryz.prog C2v:=A85 lJ xJ rfl
noncomputable def k65:Sg typ:=B0j 65 1
theorem o65:COk Tryz.prog k65:=A5b lS rfl rfl
noncomputable def C2w:Sg typ:=C0d 227 1
theorem C2x:COk Tryz.prog C2w:=B2j lH rfl rfl
noncomputable def C2y:Sg typ:=C0f 183 1
theorem C0g:COk Tryz.prog C2y:=B2k lC rfl rfl
noncomputable def C2z:Sg typ:=B51 118 2
theorem B0p:COk Tryz.prog C2z:=A86 lI rfl (by kernel_rfl)
noncomputable def C30:Sg typ:=B52 230
theorem B7a:COk Tryz.prog C30:=A87 lA rfl
noncomputable def k53:Sg typ:=B0o 53
theorem o53:COk Tryz.prog k53:=A5f lB rfl
noncomputable def C31:Sg typ:=kCC 174 183
theorem C32:COk Tryz.prog C31:=B5o (ρ:=Zm) { lJ with } xJ.toX72 rfl rfl
end Go.Proofs.YtalojkjpjdcibaaGreatDoor
