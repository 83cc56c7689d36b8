/- s[:n:n]: a slice whose capacity is its length; what is appended to it lies in a new row. -/
import Derived.Test.YtplbaenjbihekaaGreatDoorVcYB
namespace Go.Vc
open Go
variable {P:Program} {B:Base} {ops:Array Oper}
section
variable {d:Nat} {x y:Operand} {ty:TypeId} {pos:String} {af:Array Edge} {nt nt':List (Nat×V)}
theorem OpJ.cut3 {t e:TypeId} {sz:Nat} {ag:Bool} (hu:P.underlying t=some (.slice e)) (ht:TyS P e sz ag) {es es':List D} {z z':Operand} {k k':IntKind} {n:Int} {nl nh:List (Nat×V)} (h0:0≤n) (h2:n.toNat≤es.length) (hes:es'=es.take n.toNat) (hN:d<B.N)
  (hx:Opd x (.d (.list sz es)) nt) (hz:Opd z (.d (.int k n)) nl) (hz':Opd z' (.d (.int k' n)) nh) :
  OpJ P B ops ⟨some d,.slice t x none (some z) (some z'),ty,pos,af,none⟩ { nt:=nt++(nl++nh),wt:=[(d,.full sz es')] } :=
 OpJ.pure rfl rfl hN fun env ob a w σ Z sm hne=>by
  obtain⟨g1,g23⟩:=G1 hne
  obtain⟨g2,g3⟩:=G1 g23
  obtain⟨ad,c,hv,hc1,hc2,hd⟩:=A1o (hx B env ob a w σ Z sm g1)
  have e1:=N7 (hz B env ob a w σ Z sm g2)
  have e2:=N7 (hz' B env ob a w σ Z sm g3)
  have hb:∀ (q:IntKind) (y:Nat) (code:BoundsCode),n.toNat≤y→(Instr.sliceBound (.int q n) y code).run P w = .ok n.toNat w:=by
   intro q y code hy
   have:n≤(y:Int):=by omega
   simp [Instr.sliceBound,asIntOf,h0,this]
  have hsz:=ht.run_size w
  have b1:=hb k' c .slice3Acap (by omega)
  have b2:=hb k n.toNat .slice3B (Nat.le_refl _)
  have hr:(Instr.sliceAt t (.slice ad es.length c) none (some (.int k n)) (some (.int k' n))).run P w = .ok (.slice (if n.toNat=0 then ad else ad.map (·.add (0*sz))) n.toNat n.toNat) w:=by
   simp [Instr.sliceAt,Instr.slice,run_underlying hu,Instr.sliceBounds,hsz,b1,b2]
  have hel:es'.length=n.toNat:=by rw [hes,List.length_take,Nat.min_eq_left h2]
  refine⟨.slice (if n.toNat=0 then ad else ad.map (·.add (0*sz))) n.toNat n.toNat,by simp only [execOp,hv,e1,e2,Sem.run_bind,Option.map_none,Option.map_some,hr,Result.andThen_ok];rfl,?_⟩
  refine⟨⟨⟨_,by rw [hel]⟩,_,_,by rw [hel],by omega,by omega,?_⟩,.inr rfl⟩
  by_cases hnil:es'=[]
  ·exact .inl hnil
  ·right
   have hpos:0<es'.length:=List.length_pos_iff.2 hnil
   rcases hd with hd | ⟨b,o,ha,hz,hs,hre⟩
   ·subst hd;simp at hes;exact absurd hes hnil
   ·refine⟨b,o,?_,hz,fun q hq=>hs q ?_,?_⟩
    ·rw [if_neg (by omega),ha];simp [S1]
    ·rw [hes] at hq;exact List.mem_of_mem_take hq
    ·rw [hes];exact D.repE_take es b o _ hre
theorem A3x (w:World) (t ty e:TypeId) (i:TypeInfo) (z:Value) (size bytes:Nat) (ht:P.underlying t=some (.slice e)) (hi:P.info? e=some i) (hz:i.zero=some z)
  (hsize:i.size=size) (hby:i.bytes=bytes) (hzs:z.cells.size=size) (hsz:0<size)
  (b:Addr) (n cap:Nat) (olds:List Value) (hlo:olds.length=n*size) (holds:∀ j u,olds[j]? = some u→w.cell? (b.add j)=some u)
  (a:Addr) (m c:Nat) (news:List Value) (hl:news.length=m*size) (hnews:∀ j u,news[j]? = some u→w.cell? (a.add j)=some u)
  (hg:cap<n+m) (h63:n+m≤maxLen) (hbytes:(n+m)*bytes≤140737488355328) :
  ∃ v' w',(Builtin.append_ #[t,t] ty #[.slice (some b) n cap,.slice (some a) m c]).run P w = .ok v' w'∧w'.ownsRow 0 e size v' (n+m) (olds++news)∧w.grownBy w' none∧v'.ownBlock=some w.heap.size:=by
 subst hsize
 subst hby
 have hlen:(olds++news).length=(n+m)*i.size:=by rw [List.length_append,hlo,hl,Nat.add_mul]
 have hge:=grownCap_ge w (n+m) cap e
 have hcm:grownCap w (n+m) cap e≤maxLen:=grownCap_le_maxLen w (n+m) cap e h63
 have hr:=run_append_grow (P:=P) w t ty e i z ht hi hz b n cap olds hlo holds a m c news hl hnews hg (by simp only [maxLen] at h63;omega) (growslice_fits hg hbytes)
 refine⟨_,_,hr,⟨hlen,.inr ⟨w.heap.size,_,_,rfl,Nat.zero_le _,heap_alloc_new w.drew _,hge,hcm,?_,?_⟩⟩,⟨rfl,rfl,rfl,by simp,fun k hk _=>Go.heap_alloc_old w.drew _ hk⟩,rfl⟩
 ·simp only [Array.size_append,List.size_toArray,size_zeroCells,hzs,hlo,hl,← Nat.add_mul]
  congr 1
  omega
 ·simp only [Array.toList_append,List.append_assoc]
  rw [← List.append_assoc,← hlen]
  exact List.take_left
theorem OpJ.appendF {t e sz bytes:Nat} (hB:B.ok) (hu:P.underlying t=some (.slice e)) (he:TyE P e sz bytes) {nm:Nat} (hnm:1000≤nm) {es ys es':List D} {len:Nat} (hes:es'=es++ys) (hlen:len=es'.length) (h0:0<ys.length)
  (hes':∀ y∈es,y.sz=sz) (hys:∀ y∈ys,y.sz=sz) (hb:es'.length*bytes≤140737488355328) (hb63:es'.length≤9223372036854775807) (hN:d<B.N) (hx:Opd x (.full sz es) nt) (hy:Opd y (.d (.list sz ys)) nt') :
  OpJ P B ops ⟨some d,.call { callee:=.builtin .append,args:=#[x,y],argTypes:=#[t,t] },ty,pos,af,none⟩
   { nt:=nt++nt',nf:=[nm],wt:=[(d,.sref nm sz 0 len)],wo:=[(nm,some (.row e sz es'))] } :=
 OpJ.run rfl rfl hN rfl fun env ob a w σ Z sm hne=>by
  obtain⟨h1,h2⟩:=G1 hne.1
  have hfr:ob nm=none:=hne.2.2 nm (by simp)
  obtain⟨a0,hxv,hxd⟩:∃ a0,a.eval x = .slice a0 es.length es.length∧D.rep Z w (.list sz es) [a.eval x]:=by
   obtain⟨⟨a0,q1⟩,q2⟩:=(hx B env ob a w σ Z sm h1).1
   have q3:a.eval x = .slice a0 es.length es.length:=by simpa using q1
   exact⟨a0,q3,q2⟩
  obtain⟨ad,c,hyv,hc1,hc2,hyd⟩:=A1o (hy B env ob a w σ Z sm h2)
  obtain⟨ti,z,hi,hz,hs,hby,hzs⟩:=he.get
  have hlen':es'.length=es.length+ys.length:=by rw [hes,List.length_append]
  have hrun:∃ v' w' xs news,(Builtin.append_ #[t,t] ty #[a.eval x,a.eval y]).run P w = .ok v' w'∧w'.ownsRow 0 e sz v' (es.length+ys.length) (xs++news)∧w.grownBy w' none ∧
    (v'.ownBlock=none∨v'.ownBlock=some w.heap.size)∧D.repL Z w es xs∧D.repL Z w ys news:=by
   rcases hyd with hyd | ⟨b,o,ha,hzb,hsz,hre⟩
   ·subst hyd;simp at h0
   ·obtain⟨news,g1,g2⟩:=D.repL_of_repE ys b o hre hsz
    have gl:=D.repL_len ys news g1
    rw [D.szL_all ys hsz] at gl
    have hnew:∀ j u,news[j]? = some u→w.cell? ((⟨b,o,none⟩:Addr).add j)=some u:=fun j u hj=>by rw [S1];exact g2 j u hj
    obtain⟨a1,c1,k1,_,_,k4⟩:=hxd
    have ea:a1=a0:=by rw [hxv] at k1;simp at k1;exact k1.1.symm
    subst ea
    rcases k4 with k4 | ⟨b',o',k4,_,k6,k7⟩
    ·subst k4
     cases a1 with
     | none =>
      obtain⟨v',w',q1,q2,q3,_,q5⟩:=run_append_own_at (P:=P) w 0 t ty e ti z sz bytes hu hi hz hs hby hzs he.pos (.slice none 0 0) 0 [] (World.ownsRow_nil w 0 e sz) ⟨b,o,none⟩ ys.length c news gl hnew
       (D.repL_one ys news g1) (by simp only [maxLen];omega) (by rw [hlen'] at hb;simpa using hb) (Nat.zero_le _)
      exact⟨v',w',[],news,by rw [hxv,hyv,ha];exact q1,by simpa using q2,q3,q5,rfl,g1⟩
     | some aa =>
      obtain⟨v',w',q1,q2,q3,q4⟩:=A3x (P:=P) w t ty e ti z sz bytes hu hi hz hs hby hzs he.pos aa 0 0 [] (by simp) (fun j u hj=>by simp at hj) ⟨b,o,none⟩ ys.length c news gl hnew
       (by omega) (by simp only [maxLen];omega) (by rw [hlen'] at hb;simpa using hb)
      exact⟨v',w',[],news,by rw [hxv,hyv,ha];exact q1,by simpa using q2,q3,.inr q4,rfl,g1⟩
    ·obtain⟨xs,r1,r2⟩:=D.repL_of_repE es b' o' k7 k6
     have rl:=D.repL_len es xs r1
     rw [D.szL_all es k6] at rl
     obtain⟨v',w',q1,q2,q3,q4⟩:=A3x (P:=P) w t ty e ti z sz bytes hu hi hz hs hby hzs he.pos ⟨b',o',none⟩ es.length es.length xs rl (fun j u hj=>by rw [S1];exact r2 j u hj) ⟨b,o,none⟩ ys.length c news gl hnew
      (by omega) (by simp only [maxLen];omega) (by rw [hlen'] at hb;exact hb)
     exact⟨v',w',xs,news,by rw [hxv,hyv,ha,k4];exact q1,q2,q3,.inr q4,r1,g1⟩
  obtain⟨v',w',xs,news,hr,hown',hgr,hat,holds,hnews⟩:=hrun
  have hall:D.repL Z w es' (xs++news):=by rw [hes];exact D.repL_append es ys xs news holds hnews
  have s2:=sm.rowNew0 hB (nm:=nm) hfr hnm hgr hat
   (o:=.row e sz es') fun ob' σ' m hσ=>by
    refine⟨he.pos,?_,v',xs++news,by rw [hlen'];exact hown',D.repL_ext m.ext es' _ hall,hσ.symm,fun hn => ?_⟩
    ·intro q hq
     rw [hes] at hq
     rcases List.mem_append.1 hq with hq | hq
     ·exact hes' q hq
     ·exact hys q hq
    ·rw [hσ] at hn
     rcases hown'.2 with ⟨_,h0⟩ | ⟨g,cap,cur,hv,_⟩
     ·exact List.eq_nil_of_length_eq_zero (by omega)
     ·rw [hv] at hn;simp [Value.ownBlock] at hn
  rw [I7 _ rfl]
  refine⟨v',w',_,Z,?_,s2,?_⟩
  ·simp only [execOp,resolve,invoke,builtin,Sem.run_bind,Sem.run_pure,Result.andThen_ok,List.map_toArray,List.map_cons,List.map_nil,hr]
  ·rw [hlen,hlen']
   exact Q3 (e:=e) (xs:=xs++news) (by rw [F4];simp) hown' (by simp [updS])
end
end Go.Vc
