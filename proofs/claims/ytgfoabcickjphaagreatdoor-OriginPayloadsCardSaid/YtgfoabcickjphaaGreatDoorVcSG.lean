/- slices.SortFunc as a plain function. -/
import Derived.Test.YtgfoabcickjphaaGreatDoorVcSF
namespace Go.Vc
open Go Go.Sort Go.Proofs
variable {P:Program}
open Classical in
noncomputable def sortF {α:Type} (xs:List α) (cmp:α→α→Option Int):Option (List α) :=
 if h:∃ cf:_root_.Fin xs.length→_root_.Fin xs.length→Int,(∀ i j,cmp xs[i] xs[j]=some (cf i j))∧SWO (ltOf cf)∧xs.length<4611686018427387904 then
  some ((sortIx xs.length h.choose).map fun i=>xs[i])
 else none
theorem sortIx_cast {n m:Nat} (h:n=m) (cf:_root_.Fin m→_root_.Fin m→Int):sortIx m cf=(sortIx n fun i j=>cf (i.cast h) (j.cast h)).map (_root_.Fin.cast h):=by
 subst h
 simp
theorem AC.sortF {α:Type} {f g:FuncId} {e:TypeId} {sz:Nat} {caps:List V} (fe:α→D) (cmp:α→α→Option Int) (xs r:List α) (h:Vc.sortF xs cmp=some r) (hS:SortOk P f sz) (hg:FnOk P g) (hag:∀ x,(fe x).isAgg=true) (hcp:V.noobL caps=true)
  (hca:caps.all (fun x => !x.isAgg)=true) (hc:∀ x y c,cmp x y=some c→AC P g ([.d (fe x),.d (fe y)]++caps) [] (.d (.int .i64 c)) []) :
  AC P f [.sref 0 sz 0 xs.length,.func g caps] [(0,.row e sz (xs.map fe))] (.tup []) [(0,some (.row e sz (r.map fe)))]:=by
 unfold Vc.sortF at h
 split at h
 ·rename_i hh
  cases h
  obtain⟨h1,h2,h3⟩:=hh.choose_spec
  generalize hh.choose=cf at h1 h2 h3 ⊢
  have hl:(xs.map fe).length=xs.length:=List.length_map _
  have hO:SWO (ltOf fun i j:_root_.Fin (xs.map fe).length=>cf (i.cast hl) (j.cast hl)):=⟨fun x=>h2.irrefl _,fun x y z=>h2.trans _ _ _,fun x y z=>h2.ntrans _ _ _⟩
  have key:=AC.sortFn (P:=P) (f:=f) (g:=g) (e:=e) (sz:=sz) (ds:=xs.map fe) (caps:=caps) (fun i j=>cf (i.cast hl) (j.cast hl)) hS hg (fun x hx=>by
   obtain⟨y,_,rfl⟩:=List.mem_map.1 hx;exact hag y) hcp hca hO (by rw [hl];exact h3) (fun i j=>by
   have:=hc _ _ _ (h1 (i.cast hl) (j.cast hl))
   simpa using this)
  rw [sortIx_cast hl cf]
  rw [List.map_map,List.map_map]
  have e1:(fun i:_root_.Fin (xs.map fe).length=>(xs.map fe)[i])=(fe ∘ (fun i=>xs[i]) ∘ _root_.Fin.cast hl):=by
   funext i
   simp
  rw [e1] at key
  have e2:(.sref 0 sz 0 (xs.map fe).length:V) = .sref 0 sz 0 xs.length:=by rw [hl]
  rw [e2] at key
  exact key
 ·cases h
theorem sortF_tot {α:Type} {xs:List α} {cmp:α→α→Option Int} (k:α→α→Int) (hk:∀ x∈xs,∀ y∈xs,cmp x y=some (k x y)) (hi:∀ x∈xs,¬ k x x<0) (ht:∀ x∈xs,∀ y∈xs,∀ z∈xs,k x y<0→k y z<0→k x z<0)
  (hnt:∀ x∈xs,∀ y∈xs,∀ z∈xs,¬ k x y<0→¬ k y z<0→¬ k x z<0) (hn:xs.length<4611686018427387904) :
  ∃ r,sortF xs cmp=some r∧r.Perm xs∧r.Pairwise fun a b=>¬ k b a<0:=by
 have hm:∀ i:_root_.Fin xs.length,xs[i]∈xs:=fun i=>List.getElem_mem _
 have hh:∃ cf:_root_.Fin xs.length→_root_.Fin xs.length→Int,(∀ i j,cmp xs[i] xs[j]=some (cf i j))∧SWO (ltOf cf)∧xs.length<4611686018427387904:=by
  refine⟨fun i j=>k xs[i] xs[j],fun i j=>hk _ (hm i) _ (hm j),⟨fun x => ?_,fun x y z => ?_,fun x y z => ?_⟩,hn⟩
  ·simpa [ltOf] using hi _ (hm x)
  ·simpa [ltOf] using ht _ (hm x) _ (hm y) _ (hm z)
  ·simpa [ltOf] using hnt _ (hm x) _ (hm y) _ (hm z)
 obtain⟨h1,h2,h3⟩:=hh.choose_spec
 refine⟨_,by unfold sortF;rw [dif_pos hh],?_,?_⟩
 all_goals generalize hh.choose=cf at h1 h2 h3 ⊢
 ·obtain⟨_,p,_⟩:=sortIx_ok h2
  have:=p.map fun i=>xs[i]
  refine this.trans ?_
  rw [List.map_ofFn]
  have e:List.ofFn ((fun i:_root_.Fin xs.length=>xs[i]) ∘ id)=xs:=by
   refine List.ext_getElem? fun j => ?_
   by_cases hj:j<xs.length
   ·simp [hj]
   ·simp [hj]
  rw [e]
 ·obtain⟨_,_,q⟩:=sortIx_ok h2
  rw [List.pairwise_map]
  refine q.imp fun {i j} hij => ?_
  have h4:=h1 j i
  rw [hk _ (hm j) _ (hm i)] at h4
  simp only [ltOf,decide_eq_false_iff_not] at hij
  rw [Option.some.inj h4]
  exact hij
end Go.Vc
