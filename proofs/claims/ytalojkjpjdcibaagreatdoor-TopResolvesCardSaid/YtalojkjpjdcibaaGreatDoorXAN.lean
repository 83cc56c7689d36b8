/- Part of the proof that 'TopResolves' holds of every input: no condition. -/
import Derived.Test.YtalojkjpjdcibaaGreatDoorXAM
import Derived.Test.YtalojkjpjdcibaaGreatDoorXAC
namespace Go.Top
open Go Go.Vc
theorem A3e {a b c:Int} (h1:b≤a) (h2:a≤c):f133 a b c=some true:=by
  unfold f133;rw [if_pos (decide_eq_true h1),decide_eq_true h2]
theorem A1n {d:Database} (h1:d.2.2.1.length≤1000) (h2:d.2.2.2.length≤1000):f77 d=some (owners d):=by
  unfold f77;rw [A3 (lenLIM (by omega)),A3 (lenLIM (by simp;omega))];rfl
theorem Made.len {d:Database} (h:Made d):d.2.2.1.length≤1000∧d.2.2.2.length≤1000:=by
  have h1:=h.ls;have h2:=h.lm;omega
theorem B5b {d:Database} (h:Made d):f73 d=some false:=by
  have hf:=h.few;have hs:=h.ls;have hm:=h.lm;have loop:loopF (f73L0 (owners d)) 0=some (Sum.inl ():Unit⊕Unit):=D5 (l:=owners d) (x:=Sum.inl ()) (by omega) (fun i a ha=>by
    have ho:=h.own a (List.mem_of_getElem? ha);have hl:1≤a.2.2.2.2.2.length∧a.2.2.2.2.2.length≤2:=ho.few;have hin:loopF (f73L1 a) 0=some (Sum.inl ():Unit⊕Unit):=D5 (l:=a.2.2.2.2.2) (x:=Sum.inl ()) (by omega) (fun j p hp=>by
      obtain⟨n,_,_,hn⟩:=ho.pts p (List.mem_of_getElem? hp);have hmm:f133 (p.2.2.2.1.length:Int) 1 2=some true:=by
        have:pmacs p=p.2.2.2.1:=rfl;rw [← this];rcases G1 hn with e | e<;>rw [e]<;>rfl
      simp only [f73L1,B0 hp,if_true,A1 hp,A0,hmm,Bool.not_true,Bool.false_eq_true,if_false,B3 hp (by omega)]) (by
      simp only [f73L1,C1,Bool.false_eq_true,if_false])
    simp only [f73L0,B0 ha,if_true,A1 ha,A0,A3e (show(1:Int)≤(a.2.2.2.2.2.length:Int) by omega) (show(a.2.2.2.2.2.length:Int)≤4 by omega),Bool.not_true,Bool.false_eq_true,if_false,hin,caseT,B3 ha (by omega)]) (by
    simp only [f73L0,C1,Bool.false_eq_true,if_false])
  have a1:decide (4<(d.2.2.1.length:Int))=false:=decide_eq_false (by omega);have a2:decide (32<(d.2.2.2.length:Int))=false:=decide_eq_false (by omega);simp only [f73,a1,a2,Bool.false_eq_true,if_false,A1n h.len.1 h.len.2,A0,loop,caseT]
theorem A3f {s:List UInt8} (h:s∈nameList++[[65,83,45,65],[65,83,45,66]]):f135 s=some true:=by
  have:(nameList++[[65,83,45,65],[65,83,45,66]]).all (fun s=>f135 s==some true)=true:=by kernel_rfl
  exact eq_of_beq (List.all_eq_true.1 this s h)
theorem B3v {n:Nat} {p:Port} (hp:IsPort n p) (h1:1≤n) (h2:n≤14):f136 p=some false:=eq_of_beq (A1e B1p hp h1 h2)
theorem B67:f134 lan4=some true:=by kernel_rfl
theorem B68:f134 lan6=some true:=by kernel_rfl
theorem B5c {d:Database} (h:Made d):f74 d=some false:=by
  have hf:=h.few;have loop:loopF (f74L0 (owners d)) 0=some (Sum.inl ():Unit⊕Unit):=D5 (l:=owners d) (x:=Sum.inl ()) (by omega) (fun i a ha=>by
    have ho:=h.own a (List.mem_of_getElem? ha);have hl:1≤a.2.2.2.2.2.length∧a.2.2.2.2.2.length≤2:=ho.few;obtain⟨x,hx,e4⟩:=ho.m4;obtain⟨y,hy,e6⟩:=ho.m6;have a1:=A3e ho.asn.1 (show a.1≤4294967295 from Int.le_trans ho.asn.2 (by decide));have a2:=A3f (List.mem_append_left _ ho.name);have a3:f133 a.2.2.2.1 0 512=some true:=A3e (by rw [e4];omega) (by rw [e4];omega);have a4:f133 a.2.2.2.2.1 0 512=some true:=A3e (by rw [e6];omega) (by rw [e6];omega);have a5:loopF (f74L1 a) 0=some (Sum.inl ():Unit⊕Unit):=D5 (l:=a.2.2.2.2.2) (x:=Sum.inl ()) (by omega) (fun j p hp=>by
      obtain⟨n,n1,n2,hn⟩:=ho.pts p (List.mem_of_getElem? hp);simp only [f74L1,B0 hp,if_true,A1 hp,A0,B3v hn n1 n2,Bool.false_eq_true,if_false,B3 hp (by omega)]) (by
      simp only [f74L1,C1,Bool.false_eq_true,if_false])
    have a6:a.2.2.1=[]∨(a.2.2.1==([]:List UInt8))=false∧f135 a.2.2.1=some true:=by
      have hq:=ho.set;simp only [sets,List.mem_cons,List.not_mem_nil,or_false] at hq;rcases hq with e | e | e
      · exact .inl e
      · exact .inr (by rw [e];exact⟨rfl,A3f (by decide)⟩)
      · exact .inr (by rw [e];exact⟨rfl,A3f (by decide)⟩)
    have a7:(a.2.2.1==([45]:List UInt8))=false:=by
      have hq:=ho.set;simp only [sets,List.mem_cons,List.not_mem_nil,or_false] at hq;rcases hq with e | e | e<;>rw [e]<;>rfl
    rcases a6 with a6 | ⟨a6,a8⟩
    · have a6:(a.2.2.1==([]:List UInt8))=true:=by rw [a6];rfl
      simp only [f74L0,B0 ha,if_true,A1 ha,A0,F0,a1,a2,a3,a4,a5,a6,a7,Bool.not_true,Bool.not_false,Bool.false_eq_true,if_false,caseT,B3 ha (by omega)]
    · simp only [f74L0,B0 ha,if_true,A1 ha,A0,F0,a1,a2,a3,a4,a5,a6,a7,a8,Bool.not_true,Bool.not_false,Bool.false_eq_true,if_false,caseT,B3 ha (by omega)]) (by
    simp only [f74L0,C1,Bool.false_eq_true,if_false])
  have e4:d.1=lan4:=h.lan4;have e6:d.2.1=lan6:=h.lan6;have w4:f133 lan4.2 8 30=some true:=rfl;have w6:f133 lan6.2 32 64=some true:=rfl;have b4:lan4.1.1=false:=rfl;have b6:lan6.1.1=true:=rfl;simp only [f74,e4,e6,B67,B68,w4,w6,b4,b6,A0,Bool.not_true,Bool.not_false,Bool.false_eq_true,if_false,A1n h.len.1 h.len.2,loop,caseT]
theorem out4 {n:Nat} (h1:1≤n) (h2:n≤14):f138 lan4 (fourT n)=some true:=by
  have:(List.range 15).all (fun n=>n==0 || f138 lan4 (fourT n)==some true)=true:=by kernel_rfl
  have:=allRange this (show n<15 by omega);simp only [Bool.or_eq_true,beq_iff_eq] at this;rcases this with h | h
  · omega
  · exact h
theorem out6 {n:Nat} (h1:1≤n) (h2:n≤14):f138 lan6 (sixT n)=some true:=by
  have:(List.range 15).all (fun n=>n==0 || f138 lan6 (sixT n)==some true)=true:=by kernel_rfl
  have:=allRange this (show n<15 by omega);simp only [Bool.or_eq_true,beq_iff_eq] at this;rcases this with h | h
  · omega
  · exact h
theorem rlast4:f139 lan4=some (false,0,3221226239):=by kernel_rfl
theorem B5d {d:Database} (h:Made d):f75 d=some false:=by
  have hf:=h.few;have e4:d.1=lan4:=h.lan4;have e6:d.2.1=lan6:=h.lan6;have loop:loopF (f75L0 d (owners d)) 0=some (Sum.inl ():Unit⊕Unit):=D5 (l:=owners d) (x:=Sum.inl ()) (by omega) (fun i a ha=>by
    have ho:=h.own a (List.mem_of_getElem? ha);have hl:1≤a.2.2.2.2.2.length∧a.2.2.2.2.2.length≤2:=ho.few;have hin:loopF (f75L1 d a) 0=some (Sum.inl ():Unit⊕Unit):=D5 (l:=a.2.2.2.2.2) (x:=Sum.inl ()) (by omega) (fun j p hp=>by
      obtain⟨n,n1,n2,hn⟩:=ho.pts p (List.mem_of_getElem? hp);obtain⟨c1,c2,c3⟩:=inside4 n1 n2;obtain⟨c4,c5⟩:=inside6 n1 n2;have n4:f137 (fourT n)=some false:=by show some (Ty.eqT cAddr (fourT n) zeroA)=_;rw [H2 K1]
      have n6:f137 (sixT n)=some false:=by show some (Ty.eqT cAddr (sixT n) zeroA)=_;rw [H2 N5]
      have n0:f137 zeroA=some true:=rfl;rcases K7 hn with ⟨h1,h2⟩ | ⟨h1,h2⟩ | ⟨h1,h2⟩ <;>
      simp only [f75L1,B0 hp,if_true,A1 hp,A0,F0,h1,h2,e4,e6,n4,n6,n0,out4 n1 n2,out6 n1 n2,c2,c3,c5,rlast4,Bool.not_true,Bool.not_false,Bool.false_eq_true,if_false,B3 hp (by omega)]) (by
      simp only [f75L1,C1,Bool.false_eq_true,if_false])
    simp only [f75L0,B0 ha,if_true,A1 ha,A0,hin,caseT,B3 ha (by omega)]) (by
    simp only [f75L0,C1,Bool.false_eq_true,if_false])
  simp only [f75,A1n h.len.1 h.len.2,A0,loop,caseT]
-- nothing twice
theorem B69 {d:Database} (h:Made d):loopF (f76L0 d) (0,[])=some (Sum.inl (seen (if d.2.2.1.length=0 then [] else [65000]))):=by
  have hs:=h.ls;refine A9 (tb:=f76L0 d) (fun i=>((i:Int),seen (if i=0 then ([]:List Int) else [65000]))) d.2.2.1.length (by omega) (fun i hi => ?_) ?_
  · have ha:=List.getElem?_eq_getElem hi;have hasn:=h.srv_asn ha;have h0:0<d.2.2.1.length:=by omega
    have hb:=List.getElem?_eq_getElem h0;have hasn0:=h.srv_asn hb;have hb':idx d.2.2.1 0=some d.2.2.1[0]:=A1 (k:=0) hb;have e2:mput (Ty.eqT (.int .i64)) (seen (if i=0 then ([]:List Int) else [65000])) 65000 true=seen [65000]:=by
      cases i with
      | zero=>rfl
      | succ i=>exact A3c eqInt (by simp)
    simp only [f76L0,B0 ha,if_true,A1 ha,A0,hb',hasn,hasn0,show((65000:Int) != 65000)=false from rfl,Bool.false_eq_true,if_false,e2,Nat.add_one_ne_zero,B3 ha (by omega)]
  · simp only [f76L0,C1,Bool.false_eq_true,if_false]
theorem B6a {d:Database} (h:Made d):loopF (f76L1 d) (0,seen (if d.2.2.1.length=0 then [] else [65000]))=some (Sum.inl ()):=by
  have hm:=h.lm;have hn:=h.asns;generalize (if d.2.2.1.length=0 then ([]:List Int) else [65000])=B at hn ⊢;have:=A9 (tb:=f76L1 d) (x:=Sum.inl ()) (fun i=>((i:Int),seen (B++(d.2.2.2.take i).map fun m=>m.1))) d.2.2.2.length (by omega) (fun i hi=>by
    have ha:=List.getElem?_eq_getElem hi;have hf:=K6 hn ha;simp only [f76L1,B0 ha,if_true,A1 ha,A0,D6 eqInt hf,Bool.false_eq_true,if_false,E4 eqInt hf,B3 ha (by omega),H3 ha,← List.append_assoc]) (by
    simp only [f76L1,C1,Bool.false_eq_true,if_false])
  simpa using this
theorem B6b {p:Port} {B:List MAC} (hn:(B++pmacs p).Nodup) (hl:(pmacs p).length≤100):loopF (f76L4 p) (0,seen B)=some (Sum.inl (seen (B++pmacs p))):=by
  have hn':(B++(pmacs p).map fun x=>x).Nodup:=by simpa using hn
  have:=A9 (tb:=f76L4 p) (x:=Sum.inl (seen (B++pmacs p))) (fun i=>((i:Int),seen (B++((pmacs p).take i).map fun x=>x))) (pmacs p).length (by omega) (fun i hi=>by
    have ha:=List.getElem?_eq_getElem hi;have hf:=K6 (κ:=fun x=>x) hn' ha;have ha':p.2.2.2.1[i]? = some (pmacs p)[i]:=ha;simp only [f76L4,B0 ha',if_true,A1 ha',A0,D6 eqMac hf,Bool.false_eq_true,if_false,E4 eqMac hf,B3 ha (by omega),H3 (κ:=fun x=>x) ha,← List.append_assoc]) (by
    have:decide (((pmacs p).length:Int)<(p.2.2.2.1.length:Int))=false:=C1 (pmacs p);simp only [f76L4,this,Bool.false_eq_true,if_false,List.take_length,List.map_id'])
  simpa using this
theorem A3g (a:Addr):f137 a=some (Ty.eqT cAddr a zeroA):=rfl
theorem B6c {m:Member} (hp:∀ p∈mports m,∃ n,IsPort n p) (hfew:(mports m).length≤2) {Bi:List Int} {Bm:List MAC} {Ba:List Addr} (hi:(Bi++(mports m).map fun p=>p.1).Nodup) (hm:(Bm++((mports m).map pmacs).flatten).Nodup) (ha:(Ba++((mports m).map paddrs).flatten).Nodup) (hz:zeroA∉Ba) :
    loopF (f76L3 m) (0,seen Bi,seen Bm,seen Ba)=some (Sum.inl (seen (Bi++(mports m).map fun p=>p.1),seen (Bm++((mports m).map pmacs).flatten),seen (Ba++((mports m).map paddrs).flatten))):=by
  have flat:∀ {β:Type} (κ:Port→List β) (B:List β),(B++((mports m).map κ).flatten).Nodup→∀ (i:Nat) p,(mports m)[i]? = some p→(B++(((mports m).take i).map κ).flatten++κ p).Nodup:=fun κ B hB i p hp=>by
    have hl:mports m=(mports m).take i++[p]++(mports m).drop (i+1):=by
      obtain⟨hi,he⟩:=List.getElem?_eq_some_iff.1 hp;rw [List.append_assoc,← he,List.singleton_append,← List.drop_eq_getElem_cons hi,List.take_append_drop]
    rw [hl,List.map_append,List.flatten_append,← List.append_assoc] at hB;have:=(List.nodup_append.1 hB).1;simpa [List.append_assoc] using this
  have:=A9 (tb:=f76L3 m) (x:=Sum.inl (seen (Bi++(mports m).map fun p=>p.1),seen (Bm++((mports m).map pmacs).flatten),seen (Ba++((mports m).map paddrs).flatten)))
    (fun i=>((i:Int),seen (Bi++((mports m).take i).map fun p=>p.1),seen (Bm++(((mports m).take i).map pmacs).flatten),seen (Ba++(((mports m).take i).map paddrs).flatten))) (mports m).length (by omega) (fun i hlt=>by
    have hat:=List.getElem?_eq_getElem hlt;generalize (mports m)[i]=p at hat;have hat':m.2.2.2.2.2[i]? = some p:=hat;obtain⟨n,hn⟩:=hp p (List.mem_of_getElem? hat);have f1:=K6 hi hat;have f2:=flat pmacs Bm hm i p hat;have f3:=flat paddrs Ba ha i p hat;have hml:(pmacs p).length≤100:=by rcases G1 hn with e | e<;>rw [e]<;>simp
    have z0:zeroA∉Ba++(((mports m).take i).map paddrs).flatten:=fun hmm=>by
      rcases List.mem_append.1 hmm with hmm | hmm
      · exact hz hmm
      · obtain⟨l,hl,hzl⟩:=List.mem_flatten.1 hmm;obtain⟨q,hq,rfl⟩:=List.mem_map.1 hl;obtain⟨n',hn'⟩:=hp q (List.mem_of_mem_take hq);rcases O4 hn' with e | e | e<;>rw [e] at hzl<;>simp at hzl
        · exact K1 hzl.symm
        · exact N5 hzl.symm
        · rcases hzl with h | h
          · exact K1 h.symm
          · exact N5 h.symm
    have e4:Ty.eqT cAddr (fourT n) zeroA=false:=H2 K1;have e6:Ty.eqT cAddr (sixT n) zeroA=false:=H2 N5;have e0:Ty.eqT cAddr zeroA zeroA=true:=(eqAddr _ _).2 rfl;generalize hA:Ba++(((mports m).take i).map paddrs).flatten=A at f3 z0;have hA2:Ba++(((mports m).take (i+1)).map paddrs).flatten=A++paddrs p:=by rw [S8 hat,← List.append_assoc,hA]
    have hM2:Bm++(((mports m).take (i+1)).map pmacs).flatten=Bm++(((mports m).take i).map pmacs).flatten++pmacs p:=by rw [S8 hat,← List.append_assoc]
    have hI2:Bi++((mports m).take (i+1)).map (fun p=>p.1)=Bi++((mports m).take i).map (fun p=>p.1)++[p.1]:=by rw [H3 hat,← List.append_assoc]
    have nd:∀ x,x∈paddrs p→x∉A:=fun x hx hxA=>(List.nodup_append.1 f3).2.2 x hxA x hx rfl;have m4:=B6b f2 hml;have hlt':=B0 hat';have hix:=A1 hat';have hs:=B3 hat (by omega);have pa:paddrs p=[fourT n]∧p.2.2.2.2.1=fourT n∧p.2.2.2.2.2=zeroA∨paddrs p=[sixT n]∧p.2.2.2.2.1=zeroA∧p.2.2.2.2.2=sixT n∨paddrs p=[fourT n,sixT n]∧p.2.2.2.2.1=fourT n∧p.2.2.2.2.2=sixT n:=by
      rcases K7 hn with ⟨h1,h2⟩ | ⟨h1,h2⟩ | ⟨h1,h2⟩
      · exact .inl ⟨by unfold paddrs;rw [h1,h2];simp [List.filter,e4,e0],h1,h2⟩
      · exact .inr (.inl ⟨by unfold paddrs;rw [h1,h2];simp [List.filter,e6,e0],h1,h2⟩)
      · exact .inr (.inr ⟨by unfold paddrs;rw [h1,h2];simp [List.filter,e4,e6],h1,h2⟩)
    rw [hA2,hM2,hI2];rcases pa with ⟨h0,h1,h2⟩ | ⟨h0,h1,h2⟩ | ⟨h0,h1,h2⟩
    · have q4:=nd (fourT n) (by rw [h0];simp);simp only [f76L3,hlt',if_true,hix,A0,F0,D6 eqInt f1,h1,h2,D6 eqAddr q4,D6 eqAddr z0,Bool.false_eq_true,if_false,A3g,e4,e0,Bool.not_true,Bool.not_false,m4,caseT,hs,E4 eqInt f1,E4 eqAddr q4,h0]
    · have q6:=nd (sixT n) (by rw [h0];simp);simp only [f76L3,hlt',if_true,hix,A0,F0,D6 eqInt f1,h1,h2,D6 eqAddr q6,D6 eqAddr z0,Bool.false_eq_true,if_false,A3g,e6,e0,Bool.not_true,Bool.not_false,m4,caseT,hs,E4 eqInt f1,E4 eqAddr q6,h0]
    · have q4:=nd (fourT n) (by rw [h0];simp);have q6:=nd (sixT n) (by rw [h0];simp);have q6':sixT n∉A++[fourT n]:=fun hm=>by
        rcases List.mem_append.1 hm with hm | hm
        · exact q6 hm
        · exact R4 (List.mem_singleton.1 hm).symm
      simp only [f76L3,hlt',if_true,hix,A0,F0,D6 eqInt f1,h1,h2,D6 eqAddr q4,D6 eqAddr q6,Bool.false_eq_true,if_false,A3g,e4,e6,Bool.not_true,Bool.not_false,m4,caseT,hs,E4 eqInt f1,E4 eqAddr q4,E4 eqAddr q6',h0,List.append_assoc,List.cons_append,List.nil_append]) (by
    have:decide (((mports m).length:Int)<(m.2.2.2.2.2.length:Int))=false:=C1 (mports m);simp only [f76L3,this,Bool.false_eq_true,if_false,List.take_length])
  simpa using this
end Go.Top
namespace Go.Top
open Go Go.Vc
theorem V0 (ms:List Member) (i:Nat):allP ms=allP (ms.take i)++allP (ms.drop i):=by
  have:=List.take_append_drop i ms
  conv=>lhs;rw [← this]
  unfold allP;rw [List.map_append,List.flatten_append]
theorem Z2 {ms:List Member} {i:Nat} {m:Member} (h:ms[i]? = some m):allP (ms.take (i+1))=allP (ms.take i)++mports m:=by
  rw [show ms.take (i+1)=ms.take i++[m] from by rw [List.take_add_one,h];rfl,L7]
theorem B6d {d:Database} (h:Made d):loopF (f76L2 (owners d)) (0,[],[],[],[])=some (Sum.inl ()):=by
  have hf:=h.few;have hr:=h.row;have hn:=h.names;have:=A9 (tb:=f76L2 (owners d)) (x:=Sum.inl ())
    (fun i=>((i:Int),seen (((owners d).take i).map fun m=>m.2.1),seen ((allP ((owners d).take i)).map fun p=>p.1),seen ((allP ((owners d).take i)).map pmacs).flatten,seen ((allP ((owners d).take i)).map paddrs).flatten)) (owners d).length (by omega) (fun i hi=>by
    have ha:=List.getElem?_eq_getElem hi;generalize (owners d)[i]=m at ha;have hmem:=List.mem_of_getElem? ha;have ho:=h.own m hmem;have hnm:=K6 (B:=[]) (by simpa using hn) ha;rw [List.nil_append] at hnm;have hsp:=V0 (owners d) (i+1);rw [Z2 ha] at hsp;have k1:=hr.ids;have k2:=hr.macs;have k3:=hr.addrs;rw [hsp] at k1 k2 k3;rw [List.map_append] at k1 k2 k3;rw [List.flatten_append] at k2 k3;have k1:=(List.nodup_append.1 k1).1;have k2:=(List.nodup_append.1 k2).1;have k3:=(List.nodup_append.1 k3).1;rw [List.map_append] at k1 k2 k3;rw [List.flatten_append] at k2 k3;have hz:zeroA∉((allP ((owners d).take i)).map paddrs).flatten:=fun hmm=>by
      obtain⟨l,hl,hzl⟩:=List.mem_flatten.1 hmm;obtain⟨q,hq,rfl⟩:=List.mem_map.1 hl;have hq2:q∈allP (owners d):=by rw [V0 (owners d) i];exact List.mem_append_left _ hq
      obtain⟨j,hj⟩:=List.getElem?_of_mem hq2;have hn':=(h.isPort hj).1;rcases O4 hn' with e | e | e<;>rw [e] at hzl<;>simp at hzl
      · exact K1 hzl.symm
      · exact N5 hzl.symm
      · rcases hzl with h | h
        · exact K1 h.symm
        · exact N5 h.symm
    have inner:=B6c (m:=m) (fun p hp=>by obtain⟨n,_,_,hn⟩:=ho.pts p hp;exact⟨n,hn⟩) ho.few.2 k1 k2 k3 hz;simp only [f76L2,B0 ha,if_true,A1 ha,A0,D6 eqStr hnm,Bool.false_eq_true,if_false,inner,caseT,B3 ha (by omega),E4 eqStr hnm,H3 ha,Z2 ha,List.map_append,List.flatten_append]) (by
    simp only [f76L2,C1,Bool.false_eq_true,if_false])
  exact this
theorem B5e {d:Database} (h:Made d):f34 d=some 0:=by
  have h76:f76 d=some false:=by simp only [f76,B69 h,A0,caseT,B6a h,A1n h.len.1 h.len.2,B6d h]
  simp only [f34,B5b h,B5c h,B5d h,h76,A0,Bool.false_eq_true,if_false]
-- the reference's ports: only how many
theorem B5f {p:Port} (h:p.2.2.2.1.length≤100):f78 p=some p:=by
  unfold f78;rw [A3 (lenLIM (by omega))]
theorem B6e {n:Int} {acc0:List Port} {m:Member} (hp:∀ p∈mports m,∃ k,IsPort k p) (hfew:(mports m).length≤2) {acc:List Port} (ha:acc.length≤1000) :
    loopF (f35L2 (n,acc0) m) (0,acc)=some (acc++(mports m).filter fun p=>p.1==n):=by
  have:=A9 (tb:=f35L2 (n,acc0) m) (x:=acc++(mports m).filter fun p=>p.1==n) (fun i=>((i:Int),acc++((mports m).take i).filter fun p=>p.1==n)) (mports m).length (by omega) (fun i hi=>by
    have hat:=List.getElem?_eq_getElem hi;generalize (mports m)[i]=p at hat;have hat':m.2.2.2.2.2[i]? = some p:=hat;obtain⟨k,hk⟩:=hp p (List.mem_of_getElem? hat);have hml:p.2.2.2.1.length≤100:=by
      have:pmacs p=p.2.2.2.1:=rfl;rw [← this];rcases G1 hk with e | e<;>rw [e]<;>simp
    have ht:(mports m).take (i+1)=(mports m).take i++[p]:=by rw [List.take_add_one,hat];rfl
    have hlen:(((mports m).take i).filter fun p=>p.1==n).length≤2:=Nat.le_trans (List.length_filter_le ..) (by rw [List.length_take];omega);have hlt':=B0 hat';have hix:=A1 hat';have hs:=B3 hat (by omega);cases he:(p.1==n) with
    | true =>
      have e:acc++((mports m).take (i+1)).filter (fun p=>p.1==n)=acc++((mports m).take i).filter (fun p=>p.1==n)++[p]:=by
        rw [ht,List.filter_append,← List.append_assoc];simp [List.filter,he]
      rw [e];simp only [f35L2,hlt',if_true,hix,A0,he,B5f hml];rw [A3 (lenLIM (by simp only [List.length_append,List.length_cons,List.length_nil];omega)),hs]
    | false =>
      have e:acc++((mports m).take (i+1)).filter (fun p=>p.1==n)=acc++((mports m).take i).filter (fun p=>p.1==n):=by
        rw [ht,List.filter_append];simp [List.filter,he]
      rw [e];simp only [f35L2,hlt',if_true,hix,A0,he,Bool.false_eq_true,if_false,hs]) (by
    have:decide (((mports m).length:Int)<(m.2.2.2.2.2.length:Int))=false:=C1 (mports m);simp only [f35L2,this,Bool.false_eq_true,if_false,List.take_length])
  simpa using this
theorem B6f {d:Database} (h:Made d) {n:Int} {acc0 acc:List Port} (ha:acc.length≤500):loopF (f35L1 (n,acc0) (owners d)) (0,acc)=some (acc++(allP (owners d)).filter fun p=>p.1==n):=by
  have hf:=h.few;have:=A9 (tb:=f35L1 (n,acc0) (owners d)) (x:=acc++(allP (owners d)).filter fun p=>p.1==n) (fun i=>((i:Int),acc++(allP ((owners d).take i)).filter fun p=>p.1==n)) (owners d).length (by omega) (fun i hi=>by
    have hat:=List.getElem?_eq_getElem hi;generalize (owners d)[i]=m at hat;have ho:=h.own m (List.mem_of_getElem? hat);have hlen:((allP ((owners d).take i)).filter fun p=>p.1==n).length≤14:=Nat.le_trans (List.length_filter_le ..) (by
      have:=V0 (owners d) i;have h2:=congrArg List.length this;rw [List.length_append] at h2;omega)
    have inner:=B6e (n:=n) (acc0:=acc0) (m:=m) (fun p hp=>by obtain⟨k,_,_,hn⟩:=ho.pts p hp;exact⟨k,hn⟩) ho.few.2 (acc:=acc++(allP ((owners d).take i)).filter fun p=>p.1==n) (by simp;omega);simp only [f35L1,B0 hat,if_true,A1 hat,A0,inner,B3 hat (by omega),Z2 hat,List.filter_append,List.append_assoc]) (by
    simp only [f35L1,C1,Bool.false_eq_true,if_false,List.take_length])
  simpa [allP] using this
theorem B1q (l:List Port) (n:Int):(l.filter fun p=>decide (p.1<n+1)).length=(l.filter fun p=>decide (p.1<n)).length+(l.filter fun p=>p.1==n).length:=by
  induction l with
  | nil=>rfl
  | cons p l ih =>
    simp only [List.filter_cons]
    by_cases h1:p.1<n
    · have h2:p.1<n+1:=by omega
      have h3:(p.1==n)=false:=beq_eq_false_iff_ne.2 (by omega);simp only [decide_eq_true h1,decide_eq_true h2,h3,if_true,Bool.false_eq_true,if_false,List.length_cons,ih];omega
    · by_cases h4:p.1=n
      · have h2:p.1<n+1:=by omega
        have h3:(p.1==n)=true:=beq_iff_eq.2 h4;simp only [decide_eq_false h1,decide_eq_true h2,h3,if_true,Bool.false_eq_true,if_false,List.length_cons,ih];omega
      · have h2:¬ p.1<n+1:=by omega
        have h3:(p.1==n)=false:=beq_eq_false_iff_ne.2 h4;simp only [decide_eq_false h1,decide_eq_false h2,h3,Bool.false_eq_true,if_false,ih]
theorem A7t {d:Database} (h:Made d):∃ l,f35 d=some l∧l.length=(allP (owners d)).length∧∀ x,x∈l↔x∈allP (owners d):=by
  have hf:=h.few;have ids:∀ p∈allP (owners d),0≤p.1∧p.1<((1000:Nat):Int):=fun p hp=>by
    obtain⟨j,hj⟩:=List.getElem?_of_mem hp;obtain⟨hj1,hj2⟩:=h.isPort hj;obtain⟨o,ho,e⟩:=A1g hj1;rw [e];omega
  obtain⟨x,h1,h2⟩:=L6 (tb:=f35L0 d) (Q:=fun l=>l.length=(allP (owners d)).length∧∀ x,x∈l↔x∈allP (owners d))
    (Inv:=fun k s=>∃ (i:Nat) (acc:List Port),i+k=1000∧acc.length=((allP (owners d)).filter fun p=>decide (p.1<(i:Int))).length∧(∀ x,x∈acc↔x∈allP (owners d)∧x.1<(i:Int))∧s=((i:Int),acc))
    (fun k s ⟨i,acc,g1,g2,g4,g3⟩=>by
      subst g3;have hle:decide ((i:Int)≤999)=true:=decide_eq_true (by omega);have hacc:acc.length≤500:=by rw [g2];exact Nat.le_trans (List.length_filter_le ..) (by omega)
      refine⟨_,?_,i+1,acc++(allP (owners d)).filter (fun p=>p.1==(i:Int)),by omega,?_,fun x => ?_,rfl⟩
      · simp only [f35L0,hle,if_true,A1n h.len.1 h.len.2,A0,B6f h hacc];rw [E7 (by omega)]
      · rw [List.length_append,g2];have:=B1q (allP (owners d)) (i:Int);rw [show(((i+1:Nat):Int))=(i:Int)+1 by omega];exact this.symm
      · rw [List.mem_append,g4,List.mem_filter];simp only [beq_iff_eq];constructor
        · rintro(⟨a,b⟩ | ⟨a,b⟩)
          · exact⟨a,by omega⟩
          · exact⟨a,by omega⟩
        · rintro⟨a,b⟩
          by_cases e:x.1=(i:Int)
          · exact .inr ⟨a,e⟩
          · exact .inl ⟨a,by omega⟩)
    (fun s ⟨i,acc,g1,g2,g4,g3⟩=>by
      subst g3;have:i=1000:=by omega
      subst this;refine⟨acc,rfl,?_,fun x=>⟨fun hx=>((g4 x).1 hx).1,fun hx=>(g4 x).2 ⟨hx,(ids x hx).2⟩⟩⟩;rw [g2];congr 1;exact List.filter_eq_self.2 fun p hp=>decide_eq_true (ids p hp).2)
    (n:=1000) (by omega) (s:=(0,[])) ⟨0,[],rfl,by
      symm;show _=0;rw [List.length_eq_zero_iff,List.filter_eq_nil_iff];intro p hp;have:=ids p hp;simp;omega,fun x=>⟨fun hx=>(nomatch hx),fun⟨hx,e⟩=>by have:=ids x hx;omega⟩,rfl⟩
  exact⟨x,by simp only [f35,h1,A0],h2⟩
theorem B5g {d:Database} (h:Made d):∃ l,f35 d=some l∧l.length=(allP (owners d)).length:=by
  obtain⟨l,h1,h2,_⟩:=A7t h;exact⟨l,h1,h2⟩
end Go.Top
namespace Go.Top
open Go Go.Vc
theorem F4 {S X:Type} {tb:S→Option (X⊕S)} {Inv:Nat→S→Prop} {Q:X→Prop} (step:∀ i s,Inv i s→(∃ x,tb s=some (.inl x)∧Q x)∨∃ s' j,j<i∧tb s=some (.inr s')∧Inv j s')
    {n:Nat} (hn:n≤10000) {s:S} (h0:Inv n s):∃ x,loopF tb s=some x∧Q x:=by
  have key:∀ n,∀ m,m≤n→∀ s,Inv m s→∃ x,iter tb (n+1) s=some x∧Q x:=by
    intro n;induction n with
    | zero =>
      intro m hm s h;rcases step m s h with ⟨x,h1,h2⟩ | ⟨s',j,hj,_,_⟩
      · exact⟨x,by rw [iter,h1];rfl,h2⟩
      · omega
    | succ n ih =>
      intro m hm s h;rcases step m s h with ⟨x,h1,h2⟩ | ⟨s',j,hj,h1,h2⟩
      · exact⟨x,by rw [iter,h1];rfl,h2⟩
      · obtain⟨x,h3,h4⟩:=ih j (by omega) s' h2;exact⟨x,by rw [iter,h1];exact h3,h4⟩
  obtain⟨x,h1,h2⟩:=key n n (Nat.le_refl _) s h0;exact⟨x,E8 (by omega) h1,h2⟩
theorem B1r (a b:Int):∃ c,f132 a b=some c:=by
  have h3:∀ x:Int,f193 x=some false:=fun x=>by simp [f193]
  by_cases h1:a<b
  · exact⟨_,by simp only [f132,h3,A0,Bool.false_eq_true,if_false,decide_eq_true h1,if_true];rfl⟩
  · by_cases h2:b<a
    · exact⟨_,by simp only [f132,h3,A0,Bool.false_eq_true,if_false,decide_eq_false h1,decide_eq_true h2,if_true];rfl⟩
    · exact⟨_,by simp only [f132,h3,A0,Bool.false_eq_true,if_false,decide_eq_false h1,decide_eq_false h2];rfl⟩
theorem A50 (a b:Int):∃ c,f143 a b=some c:=by
  have h3:∀ x:Int,f199 x=some false:=fun x=>by simp [f199]
  by_cases h1:a<b
  · exact⟨_,by simp only [f143,h3,A0,Bool.false_eq_true,if_false,decide_eq_true h1,if_true];rfl⟩
  · by_cases h2:b<a
    · exact⟨_,by simp only [f143,h3,A0,Bool.false_eq_true,if_false,decide_eq_false h1,decide_eq_true h2,if_true];rfl⟩
    · exact⟨_,by simp only [f143,h3,A0,Bool.false_eq_true,if_false,decide_eq_false h1,decide_eq_false h2];rfl⟩
theorem B1s (l:List Int) (hl:l.length≤1000):∃ c,f141 l=some c:=by
  obtain⟨x,hx,_⟩:=Y9 (l:=l) (by omega) (tb:=f141L0 l) (Q:=fun _=>True) (fun i a ha=>by
    cases he:(a != 0) with
    | true=>exact .inr ⟨.inr a,by simp only [f141L0,B0 ha,if_true,A1 ha,A0,he],trivial⟩
    | false=>exact .inl (by simp only [f141L0,B0 ha,if_true,A1 ha,A0,he,Bool.false_eq_true,if_false,B3 ha (by omega)])) ⟨.inl (),by simp only [f141L0,C1,Bool.false_eq_true,if_false],trivial⟩
  cases x with
  | inl u=>exact⟨0,by simp only [f141,hx,A0,caseT]⟩
  | inr v=>exact⟨v,by simp only [f141,hx,A0,caseT]⟩
theorem A51 (a:Addr):∃ c,f142 a=some c:=by
  unfold f142;split<;>exact⟨_,rfl⟩
theorem A0k (x y:Binding):∃ c,f80 x y=some c:=by
  obtain⟨c1,h1⟩:=A51 x.1;obtain⟨c2,h2⟩:=A51 y.1;obtain⟨c3,h3⟩:=B1r c1 c2;obtain⟨c4,h4⟩:=A50 x.1.2.1 y.1.2.1;obtain⟨c5,h5⟩:=A50 x.1.2.2 y.1.2.2;obtain⟨c6,h6⟩:=B1s [c3,c4,c5] (by simp);exact⟨c6,by simp only [f80,f81,h1,h2,h3,h4,h5,h6,A0]⟩
-- swaps
theorem T2 {l:List Binding} {i j:Nat} {a b:Binding} (hi:l[i]? = some a) (hj:l[j]? = some b):((l.set i b).set j a).Perm l:=by
  obtain⟨h1,e1⟩:=List.getElem?_eq_some_iff.1 hi;obtain⟨h2,e2⟩:=List.getElem?_eq_some_iff.1 hj;have:=List.set_set_perm h1 h2;rw [e1,e2] at this;exact this
theorem sub1 {k:Nat} (h:1≤k) (h2:k≤1000000):w64 ((k:Int)-1)=((k-1:Nat):Int):=by rw [C6 (by omega) (by omega)];omega
theorem A9n {a:Nat} {l0:List Binding} (hl0:l0.length≤1000) {j:Nat} (hj:j<l0.length) (ha:a≤j):∃ l',loopF (f197L1 (a:Int)) ((j:Int),l0)=some l'∧l'.Perm l0:=by
  refine F4 (tb:=f197L1 (a:Int)) (Q:=fun l'=>l'.Perm l0) (Inv:=fun k s=>∃ (j:Nat) (l:List Binding),s=((j:Int),l)∧l.Perm l0∧j<l0.length∧a≤j∧k=j) (fun k s ⟨j,l,g1,g2,g3,g4,g5⟩ => ?_) (n:=j) (by omega) ⟨j,l0,rfl,.refl _,hj,ha,rfl⟩;subst g1 g5;have hlen:=g2.length_eq
  by_cases hlt:a<k
  · have hd:decide ((a:Int)<(k:Int))=true:=decide_eq_true (by omega);have hx:=List.getElem?_eq_getElem (show k<l.length by omega);have hy:=List.getElem?_eq_getElem (show k-1<l.length by omega);generalize hxe:l[k]=x at hx;generalize hye:l[k-1]=y at hy;obtain⟨c,hc⟩:=A0k x y;have hw:=sub1 (k:=k) (by omega) (by omega)
    by_cases hc0:c<0
    · have hz:(l.set k y)[k-1]? = some y:=by rw [List.getElem?_set_ne (by omega)];exact hy
      have hl1:decide ((l.set k y).length=l.length)=true:=by simp
      have hl2:decide (((l.set k y).set (k-1) x).length=l.length)=true:=by simp
      refine .inr ⟨(((k-1:Nat):Int),(l.set k y).set (k-1) x),k-1,by omega,?_,k-1,_,rfl,(T2 hx hy).trans g2,by omega,by omega,rfl⟩;simp only [f197L1,hd,if_true,A1 hx,A0,hw,A1 hy,hc,decide_eq_true hc0,Int.toNat_natCast,A3 hl1,A1 hz,A3 hl2]
    · refine .inl ⟨l,?_,g2⟩;simp only [f197L1,hd,if_true,A1 hx,A0,hw,A1 hy,hc,decide_eq_false hc0,Bool.false_eq_true,if_false]
  · have hd:decide ((a:Int)<(k:Int))=false:=decide_eq_false (by omega);exact .inl ⟨l,by simp only [f197L1,hd,Bool.false_eq_true,if_false],g2⟩
theorem A7u {a b:Nat} {l0:List Binding} (hl0:l0.length≤1000) (ha:a≤1000) (hb:b≤l0.length):∃ l',f197 (a:Int) (b:Int) l0=some l'∧l'.Perm l0:=by
  by_cases hab:a+1≤b
  · obtain⟨l',h1,h2⟩:=F4 (tb:=f197L0 (a:Int) (b:Int)) (Q:=fun l'=>l'.Perm l0) (Inv:=fun k s=>∃ (i:Nat) (l:List Binding),s=((i:Int),l)∧l.Perm l0∧a≤i∧i≤b∧k=b-i) (fun k s ⟨i,l,g1,g2,g3,g4,g5⟩=>by
      subst g1 g5;have hlen:=g2.length_eq
      by_cases hlt:i<b
      · have hd:decide ((i:Int)<(b:Int))=true:=decide_eq_true (by omega);obtain⟨l',q1,q2⟩:=A9n (a:=a) (l0:=l) (by omega) (j:=i) (by omega) g3;refine .inr ⟨(((i+1:Nat):Int),l'),b-(i+1),by omega,?_,i+1,l',rfl,q2.trans g2,by omega,by omega,rfl⟩;simp only [f197L0,hd,if_true,q1,A0,E7 (show i≤4611686018427387904 by omega)]
      · have hd:decide ((i:Int)<(b:Int))=false:=decide_eq_false (by omega);exact .inl ⟨l,by simp only [f197L0,hd,Bool.false_eq_true,if_false],g2⟩) (n:=b-(a+1)) (by omega) (s:=(((a+1:Nat):Int),l0)) ⟨a+1,l0,rfl,.refl _,by omega,by omega,rfl⟩
    exact⟨l',by simp only [f197,E7 (show a≤4611686018427387904 by omega),h1,A0],h2⟩
  · have hd:decide (((a+1:Nat):Int)<(b:Int))=false:=decide_eq_false (by omega);have:loopF (f197L0 (a:Int) (b:Int)) (((a+1:Nat):Int),l0)=some l0:=E8 (n:=1) (by decide) (by simp only [iter,f197L0,hd,Bool.false_eq_true,if_false,A0]);exact⟨l0,by simp only [f197,E7 (show a≤4611686018427387904 by omega),this,A0],.refl _⟩
theorem A3h {a b n:Nat} {l0:List Binding} (hl0:l0.length≤1000) (ha:a+n≤l0.length) (hb:b+n≤l0.length):∃ l',f261 (a:Int) (b:Int) (n:Int) l0=some l'∧l'.Perm l0:=by
  obtain⟨l',h1,h2⟩:=F4 (tb:=f261L0 (a:Int) (b:Int) (n:Int)) (Q:=fun l'=>l'.Perm l0) (Inv:=fun k s=>∃ (i:Nat) (l:List Binding),s=((i:Int),l)∧l.Perm l0∧i≤n∧k=n-i) (fun k s ⟨i,l,g1,g2,g3,g5⟩=>by
    subst g1 g5;have hlen:=g2.length_eq
    by_cases hlt:i<n
    · have hd:decide ((i:Int)<(n:Int))=true:=decide_eq_true (by omega);have wa:w64 ((a:Int)+(i:Int))=((a+i:Nat):Int):=by rw [C6 (by omega) (by omega)];omega
      have wb:w64 ((b:Int)+(i:Int))=((b+i:Nat):Int):=by rw [C6 (by omega) (by omega)];omega
      have hx:=List.getElem?_eq_getElem (show a+i<l.length by omega);have hy:=List.getElem?_eq_getElem (show b+i<l.length by omega);generalize l[a+i]=x at hx;generalize l[b+i]=y at hy;have hz:∃ z,(l.set (a+i) y)[b+i]? = some z:=⟨_,List.getElem?_eq_getElem (by rw [List.length_set];omega)⟩;obtain⟨z,hz⟩:=hz;have hl1:decide ((l.set (a+i) y).length=l.length)=true:=by simp
      have hl2:decide (((l.set (a+i) y).set (b+i) x).length=l.length)=true:=by simp
      refine .inr ⟨(((i+1:Nat):Int),(l.set (a+i) y).set (b+i) x),n-(i+1),by omega,?_,i+1,_,rfl,(T2 hx hy).trans g2,by omega,rfl⟩;simp only [f261L0,hd,if_true,wa,wb,A1 hx,A1 hy,A0,Int.toNat_natCast,A3 hl1,A1 hz,A3 hl2,E7 (show i≤4611686018427387904 by omega)]
    · have hd:decide ((i:Int)<(n:Int))=false:=decide_eq_false (by omega);exact .inl ⟨l,by simp only [f261L0,hd,Bool.false_eq_true,if_false],g2⟩) (n:=n) (by omega) (s:=(0,l0)) ⟨0,l0,rfl,.refl _,by omega,rfl⟩
  exact⟨l',by simp only [f261,h1,A0],h2⟩
theorem B3w {a m b:Nat} {l0:List Binding} (hl0:l0.length≤1000) (h1:a<m) (h2:m<b) (hb:b≤l0.length):∃ l',f235 (a:Int) (m:Int) (b:Int) l0=some l'∧l'.Perm l0:=by
  have wd:∀ x y:Nat,y≤x→x≤100000→w64 ((x:Int)-(y:Int))=((x-y:Nat):Int):=fun x y h1 h2=>by rw [C6 (by omega) (by omega)];omega
  obtain⟨r,e1,i,l,rfl,g2,g3,g4⟩:=F4 (tb:=f235L0 (m:Int)) (Q:=fun r=>∃ (i:Nat) (l:List Binding),r=((i:Int),l)∧l.Perm l0∧i≤m∧m+i≤l0.length) (Inv:=fun k s=>∃ (i j:Nat) (l:List Binding),s=((i:Int),(j:Int),l)∧l.Perm l0∧1≤i∧1≤j∧i≤m∧m+j≤l0.length∧k=i+j) (fun k s ⟨i,j,l,g1,g2,g3,g4,g5,g6,g7⟩=>by
    subst g1 g7;have hlen:=g2.length_eq;have wmi:=wd m i g5 (by omega)
    by_cases he:i=j
    · subst he;have hd:(((i:Int) != (i:Int)):Bool)=false:=by simp
      exact .inl ⟨((i:Int),l),by simp only [f235L0,hd,Bool.false_eq_true,if_false],i,l,rfl,g2,g5,g6⟩
    · have hd:(((i:Int) != (j:Int)):Bool)=true:=bne_iff_ne.2 (by omega)
      by_cases hlt:j<i
      · have hd2:decide ((j:Int)<(i:Int))=true:=decide_eq_true (by omega);obtain⟨l',q1,q2⟩:=A3h (a:=m-i) (b:=m) (n:=j) (l0:=l) (by omega) (by omega) (by omega);have hl2:decide (l'.length=l.length)=true:=decide_eq_true q2.length_eq;refine .inr ⟨(((i-j:Nat):Int),(j:Int),l'),i-j+j,by omega,?_,i-j,j,l',rfl,q2.trans g2,by omega,g4,by omega,g6,rfl⟩;simp only [f235L0,hd,if_true,hd2,wmi,q1,A0,A3 hl2,wd i j (by omega) (by omega)]
      · have hd2:decide ((j:Int)<(i:Int))=false:=decide_eq_false (by omega);obtain⟨l',q1,q2⟩:=A3h (a:=m-i) (b:=m+j-i) (n:=i) (l0:=l) (by omega) (by omega) (by omega);have hl2:decide (l'.length=l.length)=true:=decide_eq_true q2.length_eq;have ws:w64 ((m:Int)+(j:Int))=((m+j:Nat):Int):=by rw [C6 (by omega) (by omega)];omega
        refine .inr ⟨((i:Int),((j-i:Nat):Int),l'),i+(j-i),by omega,?_,i,j-i,l',rfl,q2.trans g2,g3,by omega,g5,by omega,rfl⟩;simp only [f235L0,hd,if_true,hd2,Bool.false_eq_true,if_false,wmi,ws,wd (m+j) i (by omega) (by omega),q1,A0,A3 hl2,wd j i (by omega) (by omega)]) (n:=m-a+(b-m)) (by omega) (s:=(((m-a:Nat):Int),((b-m:Nat):Int),l0)) ⟨m-a,b-m,l0,rfl,.refl _,by omega,by omega,by omega,by omega,rfl⟩
  have hlen:=g2.length_eq;obtain⟨l',q1,q2⟩:=A3h (a:=m-i) (b:=m) (n:=i) (l0:=l) (by omega) (by omega) (by omega);refine⟨l',?_,q2.trans g2⟩;simp only [f235,wd m a (by omega) (by omega),wd b m (by omega) (by omega),e1,A0,wd m i (by omega) (by omega),q1]
end Go.Top
namespace Go.Top
open Go Go.Vc
theorem B3x:(List.range 100).all (fun s=>w64 (shrI .u64 (IntKind.u64.wrap (w64 (s:Int))) 1)==((s / 2:Nat):Int))=true:=by kernel_rfl
theorem A3i {a b:Nat} (h:a+b<100):w64 (shrI .u64 (IntKind.u64.wrap (w64 ((a:Int)+(b:Int)))) 1)=(((a+b) / 2:Nat):Int):=by
  have:=eq_of_beq (allRange B3x h);rw [show(a:Int)+(b:Int)=((a+b:Nat):Int) by omega];exact this
theorem wsub {x y:Nat} (h1:y≤x) (h2:x≤100000):w64 ((x:Int)-(y:Int))=((x-y:Nat):Int):=by rw [C6 (by omega) (by omega)];omega
theorem wadd {x y:Nat} (h1:x≤100000) (h2:y≤100000):w64 ((x:Int)+(y:Int))=((x+y:Nat):Int):=by rw [C6 (by omega) (by omega)];omega
theorem wsub1 {x:Nat} (h1:1≤x) (h2:x≤100000):w64 ((x:Int)-1)=((x-1:Nat):Int):=wsub (y:=1) h1 h2
theorem B6g {a m b:Nat} {l:List Binding} (hl:l.length≤40) (ha:a<l.length) (hm:m≤b) (hb:b≤l.length):∃ x:Nat,loopF (f198FL0 (a:Int) l) ((m:Int),(b:Int))=some (x:Int)∧m≤x∧x≤b:=by
  obtain⟨r,e,x,rfl,h1,h2⟩:=F4 (tb:=f198FL0 (a:Int) l) (Q:=fun r=>∃ x:Nat,r=(x:Int)∧m≤x∧x≤b) (Inv:=fun k s=>∃ i j:Nat,s=((i:Int),(j:Int))∧m≤i∧i≤j∧j≤b∧k=j-i) (fun k s ⟨i,j,g1,g2,g3,g4,g5⟩=>by
    subst g1 g5
    by_cases hlt:i<j
    · have hd:decide ((i:Int)<(j:Int))=true:=decide_eq_true (by omega);have hmid:=A3i (a:=i) (b:=j) (by omega);have hx:=List.getElem?_eq_getElem (show(i+j) / 2<l.length by omega);have hy:=List.getElem?_eq_getElem ha;obtain⟨c,hc⟩:=A0k l[(i+j) / 2] l[a]
      by_cases hc0:c<0
      · exact .inr ⟨((((i+j) / 2+1:Nat):Int),(j:Int)),j-((i+j) / 2+1),by omega,by
          simp only [f198FL0,hd,if_true,hmid,A1 hx,A1 hy,A0,hc,decide_eq_true hc0,E7 (show(i+j) / 2≤4611686018427387904 by omega)],(i+j) / 2+1,j,rfl,by omega,by omega,g4,rfl⟩
      · exact .inr ⟨((i:Int),(((i+j) / 2:Nat):Int)),(i+j) / 2-i,by omega,by
          simp only [f198FL0,hd,if_true,hmid,A1 hx,A1 hy,A0,hc,decide_eq_false hc0,Bool.false_eq_true,if_false],i,(i+j) / 2,rfl,g2,by omega,by omega,rfl⟩
    · have hd:decide ((i:Int)<(j:Int))=false:=decide_eq_false (by omega);exact .inl ⟨(i:Int),by simp only [f198FL0,hd,Bool.false_eq_true,if_false],i,rfl,g2,by omega⟩) (n:=b-m) (by omega) (s:=((m:Int),(b:Int))) ⟨m,b,rfl,Nat.le_refl _,hm,Nat.le_refl _,rfl⟩
  exact⟨x,e,h1,h2⟩
theorem B6h {a m:Nat} {l:List Binding} (hl:l.length≤40) (hm:m<l.length) (ha:a≤m):∃ x:Nat,loopF (f198FL2 (m:Int) l) ((a:Int),(m:Int))=some (x:Int)∧a≤x∧x≤m:=by
  obtain⟨r,e,x,rfl,h1,h2⟩:=F4 (tb:=f198FL2 (m:Int) l) (Q:=fun r=>∃ x:Nat,r=(x:Int)∧a≤x∧x≤m) (Inv:=fun k s=>∃ i j:Nat,s=((i:Int),(j:Int))∧a≤i∧i≤j∧j≤m∧k=j-i) (fun k s ⟨i,j,g1,g2,g3,g4,g5⟩=>by
    subst g1 g5
    by_cases hlt:i<j
    · have hd:decide ((i:Int)<(j:Int))=true:=decide_eq_true (by omega);have hmid:=A3i (a:=i) (b:=j) (by omega);have hx:=List.getElem?_eq_getElem (show(i+j) / 2<l.length by omega);have hy:=List.getElem?_eq_getElem hm;obtain⟨c,hc⟩:=A0k l[m] l[(i+j) / 2]
      by_cases hc0:c<0
      · exact .inr ⟨((i:Int),(((i+j) / 2:Nat):Int)),(i+j) / 2-i,by omega,by
          simp only [f198FL2,hd,if_true,hmid,A1 hx,A1 hy,A0,hc,decide_eq_true hc0,Bool.not_true,Bool.false_eq_true,if_false],i,(i+j) / 2,rfl,g2,by omega,by omega,rfl⟩
      · exact .inr ⟨((((i+j) / 2+1:Nat):Int),(j:Int)),j-((i+j) / 2+1),by omega,by
          simp only [f198FL2,hd,if_true,hmid,A1 hx,A1 hy,A0,hc,decide_eq_false hc0,Bool.not_false,E7 (show(i+j) / 2≤4611686018427387904 by omega)],(i+j) / 2+1,j,rfl,by omega,by omega,g4,rfl⟩
    · have hd:decide ((i:Int)<(j:Int))=false:=decide_eq_false (by omega);exact .inl ⟨(i:Int),by simp only [f198FL2,hd,Bool.false_eq_true,if_false],i,rfl,g2,by omega⟩) (n:=m-a) (by omega) (s:=((a:Int),(m:Int))) ⟨a,m,rfl,Nat.le_refl _,ha,Nat.le_refl _,rfl⟩
  exact⟨x,e,h1,h2⟩
theorem B48 {m mid s0 r0:Nat} {l:List Binding} (hl:l.length≤40) (hmid:mid≤l.length) (hm:1≤m) (hm2:m≤l.length) (hsr:s0≤r0) (hr:r0≤l.length) (hp:∀ c,s0≤c→c<r0→c+1≤mid+m∧mid+m-1-c<l.length) {y:Int} (hy:w64 y=(mid:Int)) :
    ∃ x:Nat,loopF (f198FL4 (m:Int) l y) ((s0:Int),(r0:Int))=some (x:Int)∧s0≤x∧x≤r0:=by
  obtain⟨r,e,x,rfl,h1,h2⟩:=F4 (tb:=f198FL4 (m:Int) l y) (Q:=fun r=>∃ x:Nat,r=(x:Int)∧s0≤x∧x≤r0) (Inv:=fun k s=>∃ i j:Nat,s=((i:Int),(j:Int))∧s0≤i∧i≤j∧j≤r0∧k=j-i) (fun k s ⟨i,j,g1,g2,g3,g4,g5⟩=>by
    subst g1 g5
    by_cases hlt:i<j
    · have hd:decide ((i:Int)<(j:Int))=true:=decide_eq_true (by omega);have hmd:=A3i (a:=i) (b:=j) (by omega);have hc1:=hp ((i+j) / 2) (by omega) (by omega);have hx:=List.getElem?_eq_getElem hc1.2;have hz:=List.getElem?_eq_getElem (show(i+j) / 2<l.length by omega);obtain⟨c,hc⟩:=A0k l[mid+m-1-(i+j) / 2] l[(i+j) / 2];have w1:w64 ((w64 y)+(m:Int))=((mid+m:Nat):Int):=by rw [hy];exact wadd (by omega) (by omega)
      have w2:w64 (w64 ((w64 y)+(m:Int))-1)=((mid+m-1:Nat):Int):=by rw [w1];exact wsub1 (by omega) (by omega)
      have w3:w64 ((w64 (w64 ((w64 y)+(m:Int))-1))-(((i+j) / 2:Nat):Int))=((mid+m-1-(i+j) / 2:Nat):Int):=by rw [w2];exact wsub (by omega) (by omega)
      by_cases hc0:c<0
      · exact .inr ⟨((i:Int),(((i+j) / 2:Nat):Int)),(i+j) / 2-i,by omega,by
          simp only [f198FL4,hd,if_true,w3,hmd,A1 hx,A1 hz,A0,hc,decide_eq_true hc0,Bool.not_true,Bool.false_eq_true,if_false],i,(i+j) / 2,rfl,g2,by omega,by omega,rfl⟩
      · exact .inr ⟨((((i+j) / 2+1:Nat):Int),(j:Int)),j-((i+j) / 2+1),by omega,by
          simp only [f198FL4,hd,if_true,w3,hmd,A1 hx,A1 hz,A0,hc,decide_eq_false hc0,Bool.not_false,E7 (show(i+j) / 2≤4611686018427387904 by omega)],(i+j) / 2+1,j,rfl,by omega,by omega,g4,rfl⟩
    · have hd:decide ((i:Int)<(j:Int))=false:=decide_eq_false (by omega);exact .inl ⟨(i:Int),by simp only [f198FL4,hd,Bool.false_eq_true,if_false],i,rfl,g2,by omega⟩) (n:=r0-s0) (by omega) (s:=((s0:Int),(r0:Int))) ⟨s0,r0,rfl,Nat.le_refl _,hsr,Nat.le_refl _,rfl⟩
  exact⟨x,e,h1,h2⟩
theorem B6i {x a:Nat} {l0:List Binding} (hl0:l0.length≤40) (hx:x≤l0.length) (hx1:1≤x) (hax:a≤40):∃ l',loopF (f198FL1 (x:Int)) ((a:Int),l0)=some l'∧l'.Perm l0:=by
  refine F4 (tb:=f198FL1 (x:Int)) (Q:=fun l'=>l'.Perm l0) (Inv:=fun k s=>∃ (j:Nat) (l:List Binding),s=((j:Int),l)∧l.Perm l0∧j≤80∧k=80-j) (fun k s ⟨j,l,g1,g2,g3,g4⟩ => ?_) (n:=80-a) (by omega) ⟨a,l0,rfl,.refl _,by omega,rfl⟩;subst g1 g4;have hlen:=g2.length_eq;have hw:=wsub1 hx1 (by omega)
  by_cases hlt:j<x-1
  · have hd:decide ((j:Int)<((x-1:Nat):Int))=true:=decide_eq_true (by omega);have hs:w64 ((j:Int)+1)=((j+1:Nat):Int):=E7 (by omega);have h1:=List.getElem?_eq_getElem (show j+1<l.length by omega);have h2:=List.getElem?_eq_getElem (show j<l.length by omega);generalize l[j+1]=p at h1;generalize l[j]=q at h2;have hz:(l.set j p)[j+1]? = some p:=by rw [List.getElem?_set_ne (by omega)];exact h1
    have hl1:decide ((l.set j p).length=l.length)=true:=by simp
    have hl2:decide (((l.set j p).set (j+1) q).length=l.length)=true:=by simp
    exact .inr ⟨(((j+1:Nat):Int),(l.set j p).set (j+1) q),80-(j+1),by omega,by
      simp only [f198FL1,hw,hd,if_true,hs,A1 h1,A1 h2,A0,Int.toNat_natCast,A3 hl1,A1 hz,A3 hl2],j+1,_,rfl,(T2 h2 h1).trans g2,by omega,rfl⟩
  · have hd:decide ((j:Int)<((x-1:Nat):Int))=false:=decide_eq_false (by omega);exact .inl ⟨l,by simp only [f198FL1,hw,hd,Bool.false_eq_true,if_false],g2⟩
theorem B6j {x m:Nat} {l0:List Binding} (hl0:l0.length≤40) (hm:m<l0.length):∃ l',loopF (f198FL3 (x:Int)) ((m:Int),l0)=some l'∧l'.Perm l0:=by
  refine F4 (tb:=f198FL3 (x:Int)) (Q:=fun l'=>l'.Perm l0) (Inv:=fun k s=>∃ (j:Nat) (l:List Binding),s=((j:Int),l)∧l.Perm l0∧j≤m∧k=j) (fun k s ⟨j,l,g1,g2,g3,g4⟩ => ?_) (n:=m) (by omega) ⟨m,l0,rfl,.refl _,Nat.le_refl _,rfl⟩;subst g1 g4;have hlen:=g2.length_eq
  by_cases hlt:x<k
  · have hd:decide ((x:Int)<(k:Int))=true:=decide_eq_true (by omega);have hs:=wsub1 (x:=k) (by omega) (by omega);have h1:=List.getElem?_eq_getElem (show k-1<l.length by omega);have h2:=List.getElem?_eq_getElem (show k<l.length by omega);generalize l[k-1]=p at h1;generalize l[k]=q at h2;have hz:(l.set k p)[k-1]? = some p:=by rw [List.getElem?_set_ne (by omega)];exact h1
    have hl1:decide ((l.set k p).length=l.length)=true:=by simp
    have hl2:decide (((l.set k p).set (k-1) q).length=l.length)=true:=by simp
    exact .inr ⟨(((k-1:Nat):Int),(l.set k p).set (k-1) q),k-1,by omega,by
      simp only [f198FL3,hd,if_true,hs,A1 h1,A1 h2,A0,Int.toNat_natCast,A3 hl1,A1 hz,A3 hl2],k-1,_,rfl,(T2 h2 h1).trans g2,by omega,rfl⟩
  · have hd:decide ((x:Int)<(k:Int))=false:=decide_eq_false (by omega);exact .inl ⟨l,by simp only [f198FL3,hd,Bool.false_eq_true,if_false],g2⟩
end Go.Top
namespace Go.Top
open Go Go.Vc
theorem B1t {n:Nat} (ih:∀ (a m b:Nat) (l:List Binding),l.length≤40→a<m→m<b→b≤l.length→b-a≤n→∃ l',f198 n (a:Int) (m:Int) (b:Int) l=some l'∧l'.Perm l)
    {a m b:Nat} {l:List Binding} (hl:l.length≤40) (h1:a<m) (h2:m<b) (hb:b≤l.length) (hn:b-a≤n+1):∃ l',f198B (f198 n) (a:Int) (m:Int) (b:Int) l=some l'∧l'.Perm l:=by
  have wma:=wsub (x:=m) (y:=a) (by omega) (by omega);have wbm:=wsub (x:=b) (y:=m) (by omega) (by omega);have eqn:∀ k:Nat,(((k:Int)==1):Bool)=decide (k=1):=fun k=>by
    by_cases h:k=1
    · subst h;rfl
    · rw [decide_eq_false h];exact beq_eq_false_iff_ne.2 (by omega)
  by_cases c1:m-a=1
  · have d1:=(eqn (m-a)).trans (decide_eq_true c1);obtain⟨x,e1,x1,x2⟩:=B6g (a:=a) (m:=m) (b:=b) hl (by omega) (by omega) hb;obtain⟨l',e2,p2⟩:=B6i (x:=x) (a:=a) hl (by omega) (by omega) (by omega);exact⟨l',by simp only [f198B,wma,d1,if_true,e1,e2,A0],p2⟩
  · have d1:=(eqn (m-a)).trans (decide_eq_false c1)
    by_cases c2:b-m=1
    · have d2:=(eqn (b-m)).trans (decide_eq_true c2);obtain⟨x,e1,x1,x2⟩:=B6h (a:=a) (m:=m) hl (by omega) (by omega);obtain⟨l',e2,p2⟩:=B6j (x:=x) (m:=m) hl (by omega);exact⟨l',by simp only [f198B,wma,wbm,d1,d2,Bool.false_eq_true,if_false,if_true,e1,e2,A0],p2⟩
    · have d2:=(eqn (b-m)).trans (decide_eq_false c2);have hmid:=A3i (a:=a) (b:=b) (by omega);generalize hy:shrI .u64 (IntKind.u64.wrap (w64 ((a:Int)+(b:Int)))) 1=y at hmid;generalize hq:(a+b) / 2=mid at hmid;have q1:a<mid:=by omega
      have q2:mid<b:=by omega
      have wn:w64 (w64 y+(m:Int))=((mid+m:Nat):Int):=by rw [hmid];exact wadd (by omega) (by omega)
      -- where the search runs
      have search:∃ x:Nat,(mid<m→loopF (f198FL4 (m:Int) l y) (((mid+m-b:Nat):Int),(mid:Int))=some (x:Int))∧(¬ mid<m→loopF (f198FL4 (m:Int) l y) ((a:Int),(m:Int))=some (x:Int))∧a≤x∧x≤m∧x≤mid∧mid+m-x≤b∧mid≤mid+m-x:=by
        by_cases hc:mid<m
        · obtain⟨x,e,x1,x2⟩:=B48 (m:=m) (mid:=mid) (s0:=mid+m-b) (r0:=mid) hl (by omega) (by omega) (by omega) (by omega) (by omega) (fun c hc1 hc2=>⟨by omega,by omega⟩) hmid;exact⟨x,fun _=>e,fun h=>absurd hc h,by omega,by omega,by omega,by omega,by omega⟩
        · obtain⟨x,e,x1,x2⟩:=B48 (m:=m) (mid:=mid) (s0:=a) (r0:=m) hl (by omega) (by omega) (by omega) (by omega) (by omega) (fun c hc1 hc2=>⟨by omega,by omega⟩) hmid;exact⟨x,fun h=>absurd h hc,fun _=>e,by omega,by omega,by omega,by omega,by omega⟩
      obtain⟨x,e4,e4',x1,x2,x3,x4,x5⟩:=search;have we:w64 (((mid+m:Nat):Int)-(x:Int))=((mid+m-x:Nat):Int):=wsub (by omega) (by omega);have rot:∃ l1,l1.Perm l∧(x<m→m<mid+m-x→f235 (x:Int) (m:Int) ((mid+m-x:Nat):Int) l=some l1)∧(¬ (x<m∧m<mid+m-x)→l1=l):=by
        by_cases hc:x<m∧m<mid+m-x
        · obtain⟨l1,r1,r2⟩:=B3w (a:=x) (m:=m) (b:=mid+m-x) (l0:=l) (by omega) hc.1 hc.2 (by omega);exact⟨l1,r2,fun _ _=>r1,fun hno=>absurd hc hno⟩
        · exact⟨l,.refl _,fun q1 q2=>absurd ⟨q1,q2⟩ hc,fun _=>rfl⟩
      obtain⟨l1,p1,rt,rf⟩:=rot;have len1:=p1.length_eq;have left:∃ l2,l2.Perm l1∧(a<x→x<mid→f198 n (a:Int) (x:Int) (mid:Int) l1=some l2)∧(¬ (a<x∧x<mid)→l2=l1):=by
        by_cases hc:a<x∧x<mid
        · obtain⟨l2,r1,r2⟩:=ih a x mid l1 (by omega) hc.1 hc.2 (by omega) (by omega);exact⟨l2,r2,fun _ _=>r1,fun hno=>absurd hc hno⟩
        · exact⟨l1,.refl _,fun q1 q2=>absurd ⟨q1,q2⟩ hc,fun _=>rfl⟩
      obtain⟨l2,p2,lt,lf⟩:=left;have len2:=p2.length_eq;have right:∃ l3,l3.Perm l2∧(mid<mid+m-x→mid+m-x<b→f198 n (mid:Int) ((mid+m-x:Nat):Int) (b:Int) l2=some l3)∧(¬ (mid<mid+m-x∧mid+m-x<b)→l3=l2):=by
        by_cases hc:mid<mid+m-x∧mid+m-x<b
        · obtain⟨l3,r1,r2⟩:=ih mid (mid+m-x) b l2 (by omega) hc.1 hc.2 (by omega) (by omega);exact⟨l3,r2,fun _ _=>r1,fun hno=>absurd hc hno⟩
        · exact⟨l2,.refl _,fun q1 q2=>absurd ⟨q1,q2⟩ hc,fun _=>rfl⟩
      obtain⟨l3,p3,gt,gf⟩:=right;refine⟨l3,?_,p3.trans (p2.trans p1)⟩;have cl1:decide (l1.length=l.length)=true:=decide_eq_true len1;have cl2:decide (l2.length=l1.length)=true:=decide_eq_true len2;generalize hE:mid+m-x=e at we rt rf gt gf;have part3:(if decide ((mid:Int)<(e:Int))=true then (if decide ((e:Int)<(b:Int))=true then (f198 n (mid:Int) (e:Int) (b:Int) l2).bind fun x52=>some x52 else some l2) else some l2)=some l3:=by
        by_cases k1:mid<e
        · rw [if_pos (decide_eq_true (show(mid:Int)<(e:Int) by omega))]
          by_cases k2:e<b
          · rw [if_pos (decide_eq_true (show(e:Int)<(b:Int) by omega)),gt k1 k2];rfl
          · rw [if_neg (by rw [decide_eq_true_eq];omega),gf fun h=>k2 h.2]
        · rw [if_neg (by rw [decide_eq_true_eq];omega),gf fun h=>k1 h.1]
      have part2:∀ K:List Binding→Option (List Binding),K l2=some l3→(if decide ((a:Int)<(x:Int))=true then (if decide ((x:Int)<(mid:Int))=true then (f198 n (a:Int) (x:Int) (mid:Int) l1).bind fun x58=>Vc.chk (decide (x58.length=l1.length)) (K x58) else K l1) else K l1)=some l3:=fun K hK=>by
        by_cases k1:a<x
        · rw [if_pos (decide_eq_true (show(a:Int)<(x:Int) by omega))]
          by_cases k2:x<mid
          · rw [if_pos (decide_eq_true (show(x:Int)<(mid:Int) by omega)),lt k1 k2,A0,A3 cl2];exact hK
          · rw [if_neg (by rw [decide_eq_true_eq];omega),← lf fun h=>k2 h.2];exact hK
        · rw [if_neg (by rw [decide_eq_true_eq];omega),← lf fun h=>k1 h.1];exact hK
      have part1:∀ K:List Binding→Option (List Binding),K l1=some l3→(if decide ((x:Int)<(m:Int))=true then (if decide ((m:Int)<(e:Int))=true then (f235 (x:Int) (m:Int) (e:Int) l).bind fun x62=>Vc.chk (decide (x62.length=l.length)) (K x62) else K l) else K l)=some l3:=fun K hK=>by
        by_cases k1:x<m
        · rw [if_pos (decide_eq_true (show(x:Int)<(m:Int) by omega))]
          by_cases k2:m<e
          · rw [if_pos (decide_eq_true (show(m:Int)<(e:Int) by omega)),rt k1 k2,A0,A3 cl1];exact hK
          · rw [if_neg (by rw [decide_eq_true_eq];omega),← rf fun h=>k2 h.2];exact hK
        · rw [if_neg (by rw [decide_eq_true_eq];omega),← rf fun h=>k1 h.1];exact hK
      simp only [f198B,wma,wbm,d1,d2,Bool.false_eq_true,if_false,hy,F0,hmid];have wn:w64 ((mid:Int)+(m:Int))=((mid+m:Nat):Int):=wadd (by omega) (by omega)
      by_cases hc:mid<m
      · have hd:decide ((mid:Int)<(m:Int))=true:=decide_eq_true (by omega);have ws:w64 (((mid+m:Nat):Int)-(b:Int))=((mid+m-b:Nat):Int):=wsub (by omega) (by omega);simp only [hd,if_true,wn,ws,e4 hc,A0,we];exact part1 _ (part2 _ part3)
      · have hd:decide ((mid:Int)<(m:Int))=false:=decide_eq_false (by omega);simp only [hd,Bool.false_eq_true,if_false,wn,e4' hc,A0,we];exact part1 _ (part2 _ part3)
theorem B1u:∀ (n a m b:Nat) (l:List Binding),l.length≤40→a<m→m<b→b≤l.length→b-a≤n→∃ l',f198 n (a:Int) (m:Int) (b:Int) l=some l'∧l'.Perm l
  | 0,a,m,b,l,_,h1,h2,_,h=>by omega
  | n+1,a,m,b,l,hl,h1,h2,hb,hn=>B1t (n:=n) (fun a m b l=>B1u n a m b l) hl h1 h2 hb hn
theorem B1v {a m b:Nat} {l:List Binding} (hl:l.length≤40) (h1:a<m) (h2:m<b) (hb:b≤l.length):∃ l',f198F (a:Int) (m:Int) (b:Int) l=some l'∧l'.Perm l:=B1u 40 a m b l hl h1 h2 hb (by omega)
theorem B5h {l:List Binding} (hl:l.length≤28):∃ l',f79 l=some l'∧l'.Perm l:=by
  -- the blocks
  have blocks:∃ (a:Nat) (l1:List Binding),loopF (f140L0 (l.length:Int)) (0,20,l)=some ((a:Int),l1)∧l1.Perm l∧a≤20:=by
    by_cases h:20≤l.length
    · obtain⟨l1,r1,r2⟩:=A7u (a:=0) (b:=20) (l0:=l) (by omega) (by omega) h;have r1:f197 0 20 l=some l1:=r1;have hd:decide ((20:Int)≤(l.length:Int))=true:=decide_eq_true (by omega);have hd2:decide ((40:Int)≤(l.length:Int))=false:=decide_eq_false (by omega);have hl1:decide (l1.length=l.length)=true:=decide_eq_true r2.length_eq;refine⟨20,l1,E8 (n:=2) (by decide) ?_,r2,by omega⟩;have s1:f140L0 (l.length:Int) (0,20,l)=some (.inr (20,40,l1)):=by
        simp only [f140L0,hd,if_true,r1,A0,A3 hl1];rfl
      have s2:f140L0 (l.length:Int) (20,40,l1)=some (.inl (20,l1)):=by
        simp only [f140L0,hd2,Bool.false_eq_true,if_false]
      rw [iter,s1];show iter _ 1 _=_;rw [iter,s2];rfl
    · have hd:decide ((20:Int)≤(l.length:Int))=false:=decide_eq_false (by omega);exact⟨0,l,E8 (n:=1) (by decide) (by simp only [iter,f140L0,hd,Bool.false_eq_true,if_false,A0];rfl),.refl _,by omega⟩
  obtain⟨a,l1,b1,b2,b3⟩:=blocks;have len1:=b2.length_eq;obtain⟨l2,c1,c2⟩:=A7u (a:=a) (b:=l.length) (l0:=l1) (by omega) (by omega) (by omega);have len2:=c2.length_eq;have hl2:decide (l2.length=l1.length)=true:=decide_eq_true len2;have merge:∃ l3,loopF (f140L1 (l.length:Int)) (20,l2)=some l3∧l3.Perm l2:=by
    by_cases h:20<l.length
    · obtain⟨l3,r1,r2⟩:=B1v (a:=0) (m:=20) (b:=l.length) (l:=l2) (by omega) (by omega) h (by omega);have r1:f198F 0 20 (l.length:Int) l2=some l3:=r1;have hd:decide ((20:Int)<(l.length:Int))=true:=decide_eq_true (by omega);have hd2:decide ((40:Int)<(l.length:Int))=false:=decide_eq_false (by omega);have hd3:decide ((40:Int)≤(l.length:Int))=false:=decide_eq_false (by omega);have hl3:decide (l3.length=l2.length)=true:=decide_eq_true r2.length_eq;have in0:loopF (f140L2 (l.length:Int) (20,l2)) (0,40,l2)=some (0,l2):=E8 (n:=1) (by decide) (by
        simp only [iter,f140L2,hd3,Bool.false_eq_true,if_false,A0])
      have s1:f140L1 (l.length:Int) (20,l2)=some (.inr (40,l3)):=by
        simp only [f140L1,hd,if_true,show w64 (2*20)=40 from rfl,in0,A0,show w64 (0+20)=20 from rfl,r1,A3 hl3,show w64 (20*2)=40 from rfl]
      have s2:f140L1 (l.length:Int) (40,l3)=some (.inl l3):=by
        simp only [f140L1,hd2,Bool.false_eq_true,if_false]
      refine⟨l3,E8 (n:=2) (by decide) ?_,r2⟩;rw [iter,s1];show iter _ 1 _=_;rw [iter,s2];rfl
    · have hd:decide ((20:Int)<(l.length:Int))=false:=decide_eq_false (by omega);exact⟨l2,E8 (n:=1) (by decide) (by simp only [iter,f140L1,hd,Bool.false_eq_true,if_false,A0]),.refl _⟩
  obtain⟨l3,e1,e2⟩:=merge;exact⟨l3,by simp only [f79,f140,b1,A0,c1,A3 hl2,e1],e2.trans (c2.trans b2)⟩
end Go.Top
namespace Go.Top
open Go Go.Vc
def mac0 (p:Port):MAC:=p.2.2.2.1.headD []
def bindsP (p:Port):List Binding:=(oneT p.2.2.2.2.1++oneT p.2.2.2.2.2).map fun a=>(a,mac0 p,p.1)
def bindsL (l:List Port):List Binding:=(l.map bindsP).flatten
theorem N3 (a:Addr):(oneT a).length≤1:=by unfold oneT;split<;>simp
theorem A6g (p:Port):(bindsP p).length≤2:=by
  have h1:=N3 p.2.2.2.2.1;have h2:=N3 p.2.2.2.2.2;simp only [bindsP,List.length_map,List.length_append];omega
theorem P8:∀ l:List Port,(bindsL l).length≤2*l.length
  | []=>by simp [bindsL]
  | p :: l=>by
    have ih:=P8 l;have:=A6g p;simp only [bindsL,List.map_cons,List.flatten_cons,List.length_append,List.length_cons] at ih ⊢;omega
theorem B6k {p:Port} (hm:1≤(pmacs p).length) {acc:List Binding} (ha:acc.length≤1000):loopF (f36L1 p (oneT p.2.2.2.2.1) (oneT p.2.2.2.2.2)) (0,acc)=some (acc++bindsP p):=by
  have h1:=N3 p.2.2.2.2.1;have h2:=N3 p.2.2.2.2.2;generalize hl:oneT p.2.2.2.2.1++oneT p.2.2.2.2.2=aa;have hlen:aa.length≤2:=by rw [← hl,List.length_append];omega
  have hm0:idx p.2.2.2.1 0=some (mac0 p):=by
    have:pmacs p=p.2.2.2.1:=rfl;rw [this] at hm;unfold mac0
    match p.2.2.2.1,hm with
    | x :: r,_=>rfl
  have:=A9 (tb:=f36L1 p (oneT p.2.2.2.2.1) (oneT p.2.2.2.2.2)) (x:=acc++bindsP p) (fun i=>((i:Int),acc++(aa.take i).map fun a=>(a,mac0 p,p.1))) aa.length (by omega) (fun i hi=>by
    have hat:=List.getElem?_eq_getElem hi;generalize aa[i]=a at hat;have hq:(acc++(aa.take i).map (fun a=>((a,mac0 p,p.1):Binding))++[(a,mac0 p,p.1)]).length≤4294967296:=by simp;omega
    simp only [f36L1,hl,B0 hat,if_true,A1 hat,A0,hm0];rw [A3 (lenLIM hq),B3 hat (by omega),H3 hat,List.append_assoc]) (by
    simp only [f36L1,hl,C1,Bool.false_eq_true,if_false,List.take_length,bindsP])
  simpa using this
theorem B6l {l:List Port} (h:Row l):loopF (f36L0 l) (0,[])=some (bindsL l):=by
  have hl:=h.1;have:=A9 (tb:=f36L0 l) (x:=bindsL l) (fun i=>((i:Int),bindsL (l.take i))) l.length (by omega) (fun i hi=>by
    have hat:=List.getElem?_eq_getElem hi;generalize l[i]=p at hat;have hm:=h.pmacs hat;have h0:((p.2.2.2.1.length:Int)==0)=false:=beq_eq_false_iff_ne.2 (by have:(pmacs p).length=p.2.2.2.1.length:=rfl;omega);have hb:=P8 (l.take i);have hb2:(l.take i).length≤14:=by rw [List.length_take];omega
    have hin:=B6k (p:=p) hm.1 (acc:=bindsL (l.take i)) (by omega);have h1:=N3 p.2.2.2.2.1;have h2:=N3 p.2.2.2.2.2;have e:bindsL (l.take (i+1))=bindsL (l.take i)++bindsP p:=S8 hat;have hq:(oneT p.2.2.2.2.1++oneT p.2.2.2.2.2).length≤4294967296:=by rw [List.length_append];omega
    simp only [f36L0,B0 hat,if_true,A1 hat,A0,h0,Bool.false_eq_true,if_false,B1o];rw [A3 (lenLIM hq),hin,A0,B3 hat (by omega),e]) (by
    simp only [f36L0,C1,Bool.false_eq_true,if_false,List.take_length])
  exact this
theorem B5i {d:Database} (h:Made d):∃ b,f36 d=some b∧b.Perm (bindsL (allP (owners d))):=by
  have hf:=h.few;have hb:=P8 (allP (owners d));obtain⟨b,h1,h2⟩:=B5h (l:=bindsL (allP (owners d))) (by omega);have hl:decide ((bindsL (allP (owners d))).length=b.length)=true:=decide_eq_true h2.length_eq.symm;exact⟨b,by simp only [f36,B1n h,A0,B6l h.row,h1,A3 hl],h2⟩
theorem f7_0 {l:List Port} {r:List Rule} {z:Int} (h:Row l) (hr:RulesOf l r):loopF (f7L0 (r,z)) 0=some (Sum.inl ()):=by
  have hl:=h.1;have hrl:=hr.len;refine D5 (l:=r) (by omega) (fun i a ha => ?_) (by simp only [f7L0,C1,Bool.false_eq_true,if_false]);have hlt:=N6 ha;have hat:=List.getElem?_eq_getElem (show i<l.length by omega);generalize l[i]=p at hat;obtain⟨c,hc⟩:=hr.get i p hat;rw [ha] at hc;cases hc;have hn:=h.2 i p hat;have hm:=h.pmacs hat;have h0:((p.2.2.2.1.length:Int)==0)=false:=beq_eq_false_iff_ne.2 (by have:(pmacs p).length=p.2.2.2.1.length:=rfl;omega);obtain⟨o,sw,sp,two,vc,b1,b2,b3,b4,e⟩:=hn;have hsw:p.2.1=(sw:Int):=by rw [e];rfl
  have s1:decide (p.2.1<0)=false:=decide_eq_false (by omega);have s2:decide (3<p.2.1)=false:=decide_eq_false (by omega);have hsum:((w64 (((oneT p.2.2.2.2.1).length:Int)+((oneT p.2.2.2.2.2).length:Int)))==0)=false:=by
    have e4:oneT (fourT (i+1))=[fourT (i+1)]:=by unfold oneT;rw [H2 K1];rfl
    have e6:oneT (sixT (i+1))=[sixT (i+1)]:=by unfold oneT;rw [H2 N5];rfl
    have e0:oneT zeroA=[]:=by unfold oneT;rw [(eqAddr _ _).2 rfl];rfl
    rcases K7 (h.2 i p hat) with ⟨h1,h2⟩ | ⟨h1,h2⟩ | ⟨h1,h2⟩<;>rw [h1,h2]<;>simp only [e4,e6,e0]<;>rfl
  simp only [f7L0,B0 ha,if_true,A1 ha,A0,F0,h0,s1,s2,hsum,Bool.false_eq_true,if_false,B3 ha (by omega)]
theorem B6m {d:Database} (h:Made d) (m:Int):∃ r b,f7 d m pw deBr=some (r,b,true,d)∧RulesOf (allP (owners d)) r∧b.Perm (bindsL (allP (owners d))):=by
  obtain⟨r,h1,h2⟩:=B5a h;obtain⟨x,h3,h4⟩:=B5g h;obtain⟨b,h5,h6⟩:=B5i h;have hlen:((r.length:Int) != (x.length:Int))=false:=by
    have:=h2.len;rw [h4,this];simp
  exact⟨r,b,by simp only [f7,B57 h,A0,B58 h,h1,F0,show((0:Int) != 0)=false from rfl,Bool.false_eq_true,if_false,B5e h,h3,hlen,f7_0 (z:=0) h.row h2,caseT,h5],h2,h6⟩
end Go.Top
namespace Go.Top
open Go Go.Vc
section
variable {α β S X:Type} {P:α→Prop}
theorem iteT {b:Bool} {x y:Option α} (h:b=true) (k:Tot x P):Tot (if b=true then x else y) P:=by rw [if_pos h];exact k
theorem iteF {b:Bool} {x y:Option α} (h:b=false) (k:Tot y P):Tot (if b=true then x else y) P:=by
  rw [if_neg (by rw [h];simp)];exact k
def Rd1 (st:Nat→β→S) (J:Nat→β→Prop) (Q:X→Prop) (k:Nat):X⊕S→Prop
  | .inl x=>Q x
  | .inr s=>∃ b,s=st (k+1) b∧J (k+1) b
def RdL (Q:X→Prop):X⊕S→Prop
  | .inl x=>Q x
  | .inr _=>False
variable {st:Nat→β→S} {J:Nat→β→Prop} {Q:X→Prop} {k:Nat}
theorem rStep {s:S} (b:β) (e:s=st (k+1) b) (h:J (k+1) b):Tot (Option.some (Sum.inr s:X⊕S)) (Rd1 st J Q k):=⟨_,rfl,b,e,h⟩
theorem rLast {x:X} (h:Q x):Tot (Option.some (Sum.inl x:X⊕S)) (RdL Q):=⟨_,rfl,h⟩
theorem rng {tb:S→Option (X⊕S)} (n:Nat) (hn:n≤1000) (st:Nat→β→S) (J:Nat→β→Prop) (Q:X→Prop) {s0:S} (b0:β) (e0:s0=st 0 b0) (h0:J 0 b0)
    (h:∀ k b,k<n→J k b→Tot (tb (st k b)) (Rd1 st J Q k)) (he:∀ b,J n b→Tot (tb (st n b)) (RdL Q)):Tot (loopF tb s0) Q:=by
  subst e0;refine F4 (Inv:=fun i s=>∃ b,i≤n∧s=st (n-i) b∧J (n-i) b) (fun i s ⟨b,hi,e,hb⟩ => ?_) (n:=n) (by omega) ⟨b0,Nat.le_refl _,by rw [Nat.sub_self],by rw [Nat.sub_self];exact h0⟩;subst e;cases i with
  | zero =>
    obtain⟨y,ey,hy⟩:=he b hb;cases y with
    | inl x=>exact .inl ⟨x,ey,hy⟩
    | inr _=>exact hy.elim
  | succ i =>
    obtain⟨y,ey,hy⟩:=h (n-(i+1)) b (by omega) hb;cases y with
    | inl x=>exact .inl ⟨x,ey,hy⟩
    | inr s =>
      obtain⟨b',rfl,hb'⟩:=hy;have e:n-(i+1)+1=n-i:=by omega
      rw [e] at ey hb';exact .inr ⟨_,i,Nat.lt_succ_self _,ey,b',by omega,rfl,hb'⟩
theorem meas {tb:S→Option (X⊕S)} (I:S→Prop) (μ:S→Nat) (Q:X→Prop) {s:S} (hs:I s) (hm:μ s≤10000) (h:∀ s,I s→Tot (tb s) (Rnd I μ Q s)):Tot (loopF tb s) Q:=by
  refine F4 (Inv:=fun i s=>I s∧μ s=i) (fun i s ⟨hi,e⟩ => ?_) (n:=μ s) hm ⟨hs,rfl⟩;obtain⟨y,ey,hy⟩:=h s hi;cases y with
  | inl x=>exact .inl ⟨x,ey,hy⟩
  | inr s'=>exact .inr ⟨s',μ s',by rw [← e];exact hy.2,ey,hy.1,rfl⟩
end
theorem limB {n:Nat} (h:n≤4000000000):decide (n≤LIM)=true:=decide_eq_true (show n≤4294967296 by omega)
theorem wN {k:Nat} (h:k≤4000000000):w64 ((k:Int)+1)=((k+1:Nat):Int):=by rw [C6 (by omega) (by omega)];rfl
end Go.Top
namespace Go.Top
open Go Go.Vc
structure LV (n:Int) (l:Link):Prop where
  a:0≤l.1∧l.1<n
  b:0≤l.2.1∧l.2.1<n
  ne:l.1≠l.2.1
  c:1≤l.2.2∧l.2.2≤1048576
structure FV (f:Fabric):Prop where
  s:1≤f.1∧f.1≤8
  l:f.2.1.length≤24
  dn:f.2.2.1.length=f.2.1.length
  dd:(f.2.2.2.length:Int)=f.1
  lk:∀ x∈f.2.1,LV f.1 x
def al (f:Fabric) (s:Int):Bool:=decide (0≤s)&&(match f.2.2.2[s.toNat]? with | some b => !b | none=>false)
def wk (f:Fabric) (i:Nat):Bool:=match f.2.1[i]?,f.2.2.1[i]? with
  | some l,some d => !d&&(al f l.1&&al f l.2.1)
  | _,_=>false
theorem A7v {f:Fabric} {s:Int} (h:al f s=true):0≤s∧s<f.2.2.2.length:=by
  unfold al at h;have:=Bool.and_eq_true_iff.1 h;refine⟨of_decide_eq_true this.1,?_⟩;have h2:=this.2;have h0:=of_decide_eq_true this.1;cases e:f.2.2.2[s.toNat]? with
  | none=>rw [e] at h2;cases h2
  | some b=>have:=(List.getElem?_eq_some_iff.1 e).1;omega
theorem B1w {f:Fabric} {s:Int} (h:0≤s∧s<f.2.2.2.length):idx f.2.2.2 s=some (!al f s):=by
  have hl:s.toNat<f.2.2.2.length:=by omega
  refine Tot.eq (Tot.idx s.toNat (by omega) hl ?_);unfold al;rw [List.getElem?_eq_getElem hl,decide_eq_true h.1];simp
theorem B1x {f:Fabric} {s:Int} (h:¬ (0≤s∧s<f.2.2.2.length)):al f s=false:=by
  cases e:al f s with
  | false=>rfl
  | true=>exact absurd (A7v e) h
theorem A1o (f:Fabric) (s:Int):f155 f s=some (al f s):=by
  unfold f155
  by_cases h:0≤s∧s<f.2.2.2.length
  · rw [if_pos (decide_eq_true h.1),if_pos (decide_eq_true h.2),B1w h,A0,Bool.not_not]
  · rw [B1x h]
    by_cases h0:0≤s
    · rw [if_pos (decide_eq_true h0),if_neg (by rw [decide_eq_true_eq];omega)]
    · rw [if_neg (by rw [decide_eq_true_eq];omega)]
theorem A3j (f:Fabric) (s:Int):f30 f s=some (!al f s):=by
  unfold f30
  by_cases h:0≤s∧s<f.2.2.2.length
  · rw [if_neg (by rw [decide_eq_true_eq];omega),if_neg (by rw [decide_eq_true_eq];omega),B1w h,A0]
  · rw [B1x h]
    by_cases h0:s<0
    · rw [if_pos (decide_eq_true h0)];rfl
    · rw [if_neg (by rw [decide_eq_true_eq];omega),if_pos (by rw [decide_eq_true_eq];omega)];rfl
theorem A52 {f:Fabric} (hf:FV f) {i:Nat} (hi:i<f.2.1.length):f95 f (i:Int)=some (wk f i):=by
  have hd:i<f.2.2.1.length:=by rw [hf.dn];exact hi
  unfold f95 wk;rw [if_neg (by rw [decide_eq_true_eq];omega),if_neg (by rw [decide_eq_true_eq];omega),if_neg (by rw [decide_eq_true_eq];omega),List.getElem?_eq_getElem hi,List.getElem?_eq_getElem hd];refine Tot.eq (Tot.bindIdx i rfl hd (Tot.ite (fun h=>Tot.some ?_) (fun h=>Tot.bindIdx i rfl hi (Tot.bindOf (A1o ..) (Tot.ite (fun h2=>Tot.bindIdx i rfl hi (Tot.bindOf (A1o ..) (Tot.some ?_))) (fun h2=>Tot.some ?_))))))
  · simp only [h];rfl
  · simp only [h,h2];simp
  · simp only [h,h2];rfl
theorem A9o {f:Fabric} (hf:FV f) {i:Nat} (hi:i<f.2.1.length):f29 f (i:Int)=some (wk f i):=by
  have hd:i<f.2.2.1.length:=by rw [hf.dn];exact hi
  unfold f29 wk;rw [if_neg (by rw [decide_eq_true_eq];omega),if_neg (by rw [decide_eq_true_eq];omega),if_neg (by rw [decide_eq_true_eq];omega),List.getElem?_eq_getElem hi,List.getElem?_eq_getElem hd];refine Tot.eq (Tot.bindIdx i rfl hd (Tot.ite (fun h=>Tot.some ?_) (fun h=>Tot.bindIdx i rfl hi (Tot.bindOf (A3j ..) (Tot.ite (fun h2=>Tot.bindOf (A3j ..) (Tot.some ?_)) (fun h2=>Tot.some ?_))))))
  · simp only [h];rfl
  · rw [Bool.not_not] at h2;simp only [h,h2];simp
  · rw [Bool.not_not] at h2;simp only [h,h2];rfl

def Ed (f:Fabric) (a b:Int):Prop:=∃ i l,f.2.1[i]? = some l∧wk f i=true∧((l.1=a∧l.2.1=b)∨(l.2.1=a∧l.1=b))
theorem Ed.symm {f:Fabric} {a b:Int}:Ed f a b→Ed f b a
  | ⟨i,l,h1,h2,h3⟩=>⟨i,l,h1,h2,h3.elim (fun h => .inr ⟨h.2,h.1⟩) (fun h => .inl ⟨h.2,h.1⟩)⟩
theorem B49 {f:Fabric} {i:Nat} {l:Link} (h:wk f i=true) (hl:f.2.1[i]? = some l):al f l.1=true∧al f l.2.1=true:=by
  unfold wk at h;rw [hl] at h;cases e:f.2.2.1[i]? with
  | none=>rw [e] at h;cases h
  | some d =>
    rw [e] at h;have:=Bool.and_eq_true_iff.1 h;exact Bool.and_eq_true_iff.1 this.2
theorem Ed.al {f:Fabric} {a b:Int}:Ed f a b→al f a=true∧al f b=true
  | ⟨_,_,h1,h2,h3⟩=>h3.elim (fun h=>by have:=B49 h2 h1;rw [h.1,h.2] at this;exact this) (fun h=>by have:=B49 h2 h1;rw [h.1,h.2] at this;exact this.symm)
def gt (D:List Int) (a:Int):Int:=D.getD a.toNat (-1)
theorem A6h {D:List Int} {k:Nat} (h:k<D.length):gt D (k:Int)=D[k]:=by
  unfold gt;rw [List.getD_eq_getElem?_getD,Int.toNat_natCast,List.getElem?_eq_getElem h];rfl
theorem L2 {D:List Int} {a b v:Int} (ha:0≤a∧a<D.length) (hb:0≤b):gt (D.set a.toNat v) b=if b=a then v else gt D b:=by
  unfold gt;simp only [List.getD_eq_getElem?_getD]
  by_cases e:b=a
  · subst e;rw [if_pos rfl,List.getElem?_set_self (by omega)];rfl
  · rw [if_neg e,List.getElem?_set_ne (by omega)]
theorem B5j {D:List Int} {a:Int} (h:0≤a∧a<D.length):idx D a=some (gt D a) :=
  Tot.eq (Tot.idx a.toNat (by omega) (by omega) (by rw [← A6h (by omega),Int.toNat_of_nonneg h.1]))
theorem bindGt {α:Type} {P:α→Prop} {D:List Int} {a:Int} {k:Int→Option α} (h:0≤a∧a<D.length) (hk:Tot (k (gt D a)) P):Tot ((idx D a).bind k) P:=Tot.bindOf (B5j h) hk
structure Dst (f:Fabric) (tg:Int) (D:List Int):Prop where
  len:(D.length:Int)=f.1
  lo:∀ a,0≤a→a<f.1 → -1≤gt D a
  z:gt D tg=0
  z':∀ a,0≤a→a<f.1→gt D a=0→a=tg
  nb:∀ a b,Ed f a b→0≤gt D a→0≤gt D b∧gt D b≤gt D a+1
  pd:∀ a,0≤a→a<f.1→0<gt D a→∃ b,Ed f a b∧gt D b=gt D a-1
theorem Ed.rng {f:Fabric} (hf:FV f) {a b:Int} (h:Ed f a b):(0≤a∧a<f.1)∧(0≤b∧b<f.1):=by
  have h1:=A7v h.al.1;have h2:=A7v h.al.2;rw [hf.dd] at h1 h2;exact⟨h1,h2⟩
def un (D:List Int):Nat:=D.countP fun x=>decide (x<0)
theorem B5k {D:List Int} {a v:Int} (ha:0≤a∧a<D.length) (hn:gt D a<0) (hv:0≤v):un (D.set a.toNat v)+1=un D:=by
  have hl:a.toNat<D.length:=by omega
  have hg:D[a.toNat]<0:=by rw [← A6h hl,Int.toNat_of_nonneg ha.1];exact hn
  unfold un;rw [List.countP_set hl];have:0<D.countP fun x=>decide (x<0):=List.countP_pos_iff.2 ⟨_,List.getElem_mem hl,decide_eq_true hg⟩;rw [if_pos (by simpa using hg),if_neg (by simp;omega)];omega
structure QI (f:Fabric) (tg q:Int) (M:Nat) (Q D:List Int):Prop where
  len:(D.length:Int)=f.1
  lo:∀ a,0≤a→a<f.1 → -1≤gt D a
  z:gt D tg=0
  z':∀ a,0≤a→a<f.1→gt D a=0→a=tg
  pd:∀ a,0≤a→a<f.1→0<gt D a→∃ b,Ed f a b∧gt D b=gt D a-1
  hd:Q.head? = some q
  qs:∀ x∈Q,(0≤x∧x<f.1)∧0≤gt D x
  top:∀ a,0≤a→a<f.1→gt D a≤gt D q+1
  srt:Q.Pairwise fun x y=>gt D x≤gt D y
  dn:∀ a,0≤a→a<f.1→0≤gt D a→a∉Q→∀ b,Ed f a b→0≤gt D b∧gt D b≤gt D a+1
  mu:Q.length+un D=M
theorem QI.push {f:Fabric} (hf:FV f) {tg q:Int} {M:Nat} {Q D:List Int} (h:QI f tg q M Q D) {x:Int} (hx:Ed f q x) (hu:gt D x<0):QI f tg q M (Q++[x]) (D.set x.toNat (gt D q+1)):=by
  have hqm:q∈Q:=List.mem_of_mem_head? h.hd;obtain⟨hq,hq0⟩:=h.qs q hqm;have hxr:=(hx.rng hf).2;have hxl:0≤x∧x<D.length:=by rw [h.len];exact hxr
  have g:∀ b,0≤b→gt (D.set x.toNat (gt D q+1)) b=if b=x then gt D q+1 else gt D b:=fun b hb=>L2 hxl hb;have hqx:q≠x:=fun e=>by rw [e] at hq0;omega
  have old:∀ b,0≤b→0≤gt D b→gt (D.set x.toNat (gt D q+1)) b=gt D b:=fun b hb h0=>by
    rw [g b hb,if_neg (fun e=>by rw [e] at h0;omega)]
  have hto:0≤tg∧tg<f.1∨True:=.inr trivial;refine⟨by rw [List.length_set];exact h.len,fun a h0 h1 => ?_,?_,fun a h0 h1 e => ?_,fun a h0 h1 hp => ?_,?_,fun y hy => ?_,fun a h0 h1 => ?_,?_,fun a h0 h1 hl hn b hb => ?_,?_⟩
  · rw [g a h0];split
    · omega
    · exact h.lo a h0 h1
  · by_cases ht:0≤tg
    · rw [old tg ht (by rw [h.z];exact Int.le_refl _),h.z]
    · have hz:=h.z;have e:gt D tg=gt D 0:=by unfold gt;rw [show tg.toNat=(0:Int).toNat from by omega]
      have e':∀ L,gt L tg=gt L 0:=fun L=>by unfold gt;rw [show tg.toNat=(0:Int).toNat from by omega]
      rw [e',old 0 (Int.le_refl _) (by rw [← e,hz];exact Int.le_refl _),← e,hz]
  · rw [g a h0] at e;split at e
    · omega
    · exact h.z' a h0 h1 e
  · rw [g a h0] at hp ⊢;split at hp
    · rename_i e;subst e;rw [if_pos rfl];exact⟨q,hx.symm,by rw [old q hq.1 hq0];omega⟩
    · rename_i e;rw [if_neg e];obtain⟨b,hb,eb⟩:=h.pd a h0 h1 hp;exact⟨b,hb,by rw [old b (hb.rng hf).2.1 (by omega)];exact eb⟩
  · rw [List.head?_append,h.hd];rfl
  · rcases List.mem_append.1 hy with hy | hy
    · obtain⟨r,p⟩:=h.qs y hy;exact⟨r,by rw [old y r.1 p];exact p⟩
    · have:=List.mem_singleton.1 hy;subst this;exact⟨hxr,by rw [g _ hxr.1,if_pos rfl];omega⟩
  · rw [old q hq.1 hq0,g a h0];split
    · exact Int.le_refl _
    · exact h.top a h0 h1
  · refine List.pairwise_append.2 ⟨h.srt.imp_of_mem fun {a b} ha hb r => ?_,List.pairwise_singleton ..,fun a ha b hb => ?_⟩
    · obtain⟨ra,pa⟩:=h.qs a ha;obtain⟨rb,pb⟩:=h.qs b hb;rw [old a ra.1 pa,old b rb.1 pb];exact r
    · have:=List.mem_singleton.1 hb;subst this;obtain⟨ra,pa⟩:=h.qs a ha;rw [old a ra.1 pa,g _ hxr.1,if_pos rfl];exact h.top a ra.1 ra.2
  · have hn':a∉Q∧a≠x:=by
      refine⟨fun k=>hn (List.mem_append_left _ k),fun k=>hn (List.mem_append_right _ (by rw [k];exact List.mem_singleton_self _))⟩
    have hl':0≤gt D a:=by rw [g a h0,if_neg hn'.2] at hl;exact hl
    obtain⟨p1,p2⟩:=h.dn a h0 h1 hl' hn'.1 b hb;rw [old a h0 hl',old b (hb.rng hf).2.1 p1];exact⟨p1,p2⟩
  · have:=B5k hxl hu (v:=gt D q+1) (by omega);have:=h.mu;rw [List.length_append,List.length_singleton];omega
end Go.Top
namespace Go.Top
open Go Go.Vc
theorem mm {f:Fabric} (hf:FV f):maxI (0:Int) (minI f.1 (f.2.2.2.length:Int))=f.1:=by
  have:=hf.s;have:=hf.dd;unfold maxI minI;split<;>split<;>omega
def Prog (f:Fabric) (q:Int) (k:Nat) (D:List Int):Prop:=∀ i,i<k→∀ l,f.2.1[i]? = some l→wk f i=true→(l.1=q→0≤gt D l.2.1)∧(l.2.1=q→0≤gt D l.1)
theorem QI.closed {f:Fabric} {tg q:Int} {M:Nat} {Q D:List Int} (h:QI f tg q M Q D) (hp:Prog f q f.2.1.length D):∀ b,Ed f q b→0≤gt D b
  | b,⟨i,l,h1,h2,h3⟩=>by
    have:=hp i (List.getElem?_eq_some_iff.1 h1).1 l h1 h2;rcases h3 with h3 | h3
    · rw [← h3.2];exact this.1 h3.1
    · rw [← h3.2];exact this.2 h3.1
theorem QI.pop {f:Fabric} (hf:FV f) {tg q:Int} {M:Nat} {Q D:List Int} (h:QI f tg q M Q D) (hc:∀ b,Ed f q b→0≤gt D b) :
    (Q.drop 1=[]∧Dst f tg D)∨∃ q' M',QI f tg q' M' (Q.drop 1) D:=by
  have nbq:∀ b,Ed f q b→0≤gt D b∧gt D b≤gt D q+1:=fun b hb=>⟨hc b hb,h.top b (hb.rng hf).2.1 (hb.rng hf).2.2⟩
  match Q,h with
  | [],h=>cases h.hd
  | x :: R,h =>
    have hx:x=q:=by have:=h.hd;simpa using this
    subst hx
    match R,h with
    | [],h =>
      refine .inl ⟨rfl,h.len,h.lo,h.z,h.z',fun a b hb h0 => ?_,h.pd⟩
      by_cases e:a=x
      · subst e;exact nbq b hb
      · exact h.dn a (hb.rng hf).1.1 (hb.rng hf).1.2 h0 (by simpa using e) b hb
    | y :: R,h =>
      refine .inr ⟨y,(y :: R).length+un D,h.len,h.lo,h.z,h.z',h.pd,rfl,fun z hz=>h.qs z (List.mem_cons_of_mem _ hz),fun a h0 h1 => ?_,(List.pairwise_cons.1 h.srt).2,fun a h0 h1 hl hn b hb => ?_,rfl⟩
      · have:=h.top a h0 h1;have:=(List.pairwise_cons.1 h.srt).1 y (List.mem_cons_self ..);omega
      · by_cases e:a=x
        · subst e;exact nbq b hb
        · exact h.dn a h0 h1 hl (fun k=>by
            rcases List.mem_cons.1 k with k | k
            · exact e k
            · exact hn k) b hb
theorem pigeon:∀ (n:Nat) (L:List Int),(∀ m:Nat,m≤n→(m:Int)∈L)→n+1≤L.length
  | 0,L,hL=>List.length_pos_of_mem (hL 0 (Nat.le_refl _))
  | n+1,L,hL=>by
    have:=pigeon n (L.filter fun x=>decide (x≠((n+1:Nat):Int))) (fun m hm=>List.mem_filter.2 ⟨hL m (by omega),decide_eq_true (by omega)⟩);have:(L.filter fun x=>decide (x≠((n+1:Nat):Int))).length<L.length:=List.length_filter_lt_length_iff_exists.2 ⟨_,hL (n+1) (Nat.le_refl _),by simp⟩;omega
theorem A3k {D:List Int} {a:Int} (h:0≤a∧a<D.length):gt D a∈D:=by
  have hl:a.toNat<D.length:=by omega
  have:=A6h hl;rw [Int.toNat_of_nonneg h.1] at this;rw [this];exact List.getElem_mem hl
theorem A3l {f:Fabric} (hf:FV f) {D:List Int} (len:(D.length:Int)=f.1) (pd:∀ a,0≤a→a<f.1→0<gt D a→∃ b,Ed f a b∧gt D b=gt D a-1) {a:Int} (h0:0≤a) (h1:a<f.1):gt D a<f.1:=by
  have key:∀ (n:Nat) (a:Int),0≤a→a<f.1→gt D a=n→∀ m:Nat,m≤n→(m:Int)∈D:=by
    intro n;induction n with
    | zero =>
      intro a h0 h1 e m hm;have:m=0:=by omega
      subst this;rw [← e];exact A3k ⟨h0,by omega⟩
    | succ n ih =>
      intro a h0 h1 e m hm
      by_cases em:m=n+1
      · subst em;rw [← e];exact A3k ⟨h0,by omega⟩
      · obtain⟨c,hc,ec⟩:=pd a h0 h1 (by omega);exact ih c (hc.rng hf).2.1 (hc.rng hf).2.2 (by omega) m (by omega)
  by_cases h:0≤gt D a
  · have:=pigeon (gt D a).toNat D (fun m hm=>key (gt D a).toNat a h0 h1 (by omega) m hm);omega
  · have:=hf.s;omega
theorem B5l {f:Fabric} {i:Nat} {l:Link} (hl:f.2.1[i]? = some l) (hw:wk f i=true) {k:Nat} (hk:k<2):∃ x0 x1,([([l.1,l.2.1]:List Int),([l.2.1,l.1]:List Int)]:List (List Int))[k]? = some [x0,x1]∧Ed f x0 x1∧((k=0∧x0=l.1∧x1=l.2.1)∨(k=1∧x0=l.2.1∧x1=l.1)):=by
  have e1:Ed f l.1 l.2.1:=⟨i,l,hl,hw,.inl ⟨rfl,rfl⟩⟩
  match k,hk with
  | 0,_=>exact⟨_,_,rfl,e1,.inl ⟨rfl,rfl,rfl⟩⟩
  | 1,_=>exact⟨_,_,rfl,e1.symm,.inr ⟨rfl,rfl,rfl⟩⟩
theorem B5m {L:List Int} {a:Int} (h:¬ 0≤a):gt L a=gt L 0:=by unfold gt;rw [show a.toNat=(0:Int).toNat from by omega]
theorem pair0 (x y:Int):idx [x,y] 0=some x:=rfl
theorem pair1 (x y:Int):idx [x,y] 1=some y:=rfl
theorem B5n {f:Fabric} (hf:FV f) {tg q:Int} {M:Nat} {Q D:List Int} (h:QI f tg q M Q D) (hM:M≤1000) {i:Nat} {l:Link} (hl:f.2.1[i]? = some l) (hw:wk f i=true) :
    Tot (loopF (f154L3 [[l.1,l.2.1],[l.2.1,l.1]]) ((0:Int),D,Q)) (fun x=>QI f tg q M x.2 x.1∧(∀ a,0≤gt D a→0≤gt x.1 a)∧(l.1=q→0≤gt x.1 l.2.1)∧(l.2.1=q→0≤gt x.1 l.1)):=by
  refine rng 2 (by decide) (fun k (b:List Int×List Int)=>(((k:Nat):Int),b.1,b.2)) (fun k b=>QI f tg q M b.2 b.1∧(∀ a,0≤gt D a→0≤gt b.1 a)∧(1≤k→l.1=q→0≤gt b.1 l.2.1)∧(2≤k→l.2.1=q→0≤gt b.1 l.1))
    _ (D,Q) rfl ⟨h,fun _ x=>x,fun x=>absurd x (by decide),fun x=>absurd x (by decide)⟩ (fun k b hk hb => ?_) (fun b hb => ?_)
  · obtain⟨hb1,hb2,hb3,hb4⟩:=hb;obtain⟨x0,x1,hx,hE,hk2⟩:=B5l hl hw hk;have hr:=hE.rng hf;have hlen:=hb1.len;have hQ:idx b.2 0=some q:=by
      have:=hb1.hd
      match e:b.2,this with
      | x :: R,h=>simp only [List.head?_cons,Option.some.injEq] at h;rw [h];rfl
    have rD0:0≤x0∧x0<b.1.length:=by rw [hlen];exact hr.1
    have rD1:0≤x1∧x1<b.1.length:=by rw [hlen];exact hr.2
    unfold f154L3;refine iteT (decide_eq_true (by simp only;omega)) (Tot.bindOf (A1 hx) ?_);refine Tot.jnR (fun m:Bool=>m=true↔(x0=q∧gt b.1 x1<0)) (fun j hj=>Tot.bindOf (pair0 ..) (Tot.bindOf hQ (Tot.bindOf hQ (Tot.ite (fun h1=>Tot.bindOf (pair1 ..) (iteT (decide_eq_true rD1.2) (Tot.bindOf (pair1 ..) (bindGt rD1 (bindGt rD1 (hj _ ?_)))))) (fun h1=>hj _ ?_))))) (fun m hm=>Tot.ite (fun h1 => ?_) (fun h1=>rStep (b.1,b.2) (by rw [wN (by omega)]) ?_))
    · have:x0=q:=eq_of_beq h1;simp [this]
    · have:x0≠q:=by intro e;rw [e] at h1;simp at h1
      simp [this]
    · obtain⟨eq0,hu⟩:=hm.1 h1;have hqq:=(hb1.qs q (List.mem_of_mem_head? hb1.hd)).1;have hqg:=(hb1.qs q (List.mem_of_mem_head? hb1.hd)).2;have hqt:=A3l hf hlen hb1.pd hqq.1 hqq.2;have hs:=hf.s;have hw:w64 (gt b.1 x0+1)=gt b.1 q+1:=by rw [eq0];exact C6 (by omega) (by omega)
      refine Tot.bindOf (pair1 ..) (Tot.bindOf (pair0 ..) (bindGt rD0 (bindGt rD0 (bindGt rD1 (bindGt rD1 (Tot.bindOf (pair1 ..) (Tot.chk (Bool.and_eq_true_iff.2 ⟨by simp,limB ?_⟩) (Tot.chk (decide_eq_true (List.length_set ..)) (rStep (b.1.set x1.toNat (gt b.1 q+1),b.2++[x1]) (by rw [wN (by omega),hw]) ?_)))))))))
      · have:=hb1.mu;rw [List.length_append];simp only [List.length_singleton];omega
      · rw [eq0] at hE;have up:∀ a,0≤gt b.1 a→0≤gt (b.1.set x1.toNat (gt b.1 q+1)) a:=fun a ha=>by
          by_cases h0:0≤a
          · rw [L2 rD1 h0];split
            · omega
            · exact ha
          · rw [B5m h0] at ha ⊢;rw [L2 rD1 (Int.le_refl _)];split
            · omega
            · exact ha
        have at1:0≤gt (b.1.set x1.toNat (gt b.1 q+1)) x1:=by rw [L2 rD1 rD1.1,if_pos rfl];omega
        refine⟨hb1.push hf hE hu,fun a ha=>up a (hb2 a ha),fun h1 e => ?_,fun h1 e => ?_⟩
        · rcases hk2 with ⟨k0,ea,eb⟩ | ⟨k0,ea,eb⟩
          · rw [← eb];exact at1
          · exact up _ (hb3 (by omega) e)
        · rcases hk2 with ⟨k0,ea,eb⟩ | ⟨k0,ea,eb⟩
          · omega
          · rw [← eb];exact at1
    · have hm':x0=q→0≤gt b.1 x1:=fun e=>Int.not_lt.1 fun g=>by rw [hm.2 ⟨e,g⟩] at h1;cases h1
      refine⟨hb1,hb2,fun h1 e => ?_,fun h1 e => ?_⟩
      · rcases hk2 with ⟨k0,ea,eb⟩ | ⟨k0,ea,eb⟩
        · rw [← eb];exact hm' (ea.trans e)
        · exact hb3 (by omega) e
      · rcases hk2 with ⟨k0,ea,eb⟩ | ⟨k0,ea,eb⟩
        · omega
        · rw [← eb];exact hm' (ea.trans e)
  · unfold f154L3;exact iteF (decide_eq_false (by simp only;omega)) (rLast ⟨hb.1,hb.2.1,hb.2.2.1 (by decide),hb.2.2.2 (by decide)⟩)
end Go.Top
namespace Go.Top
open Go Go.Vc
theorem B5o {f:Fabric} (hf:FV f) {tg q:Int} {M:Nat} {Q D:List Int} (h:QI f tg q M Q D) (hM:M≤1000) :
    Tot (loopF (f154L2 f (-1)) ((0:Int),D,Q)) (fun x=>QI f tg q M x.2 x.1∧Prog f q f.2.1.length x.1):=by
  have hl:=hf.l;refine rng f.2.1.length (by omega) (fun k (b:List Int×List Int)=>(((k:Nat):Int),b.1,b.2)) (fun k b=>QI f tg q M b.2 b.1∧Prog f q k b.1) _ (D,Q) rfl ⟨h,fun i hi=>absurd hi (Nat.not_lt_zero _)⟩ (fun k b hk hb => ?_) (fun b hb => ?_)
  · have hlk:f.2.1[k]? = some f.2.1[k]:=List.getElem?_eq_getElem hk;unfold f154L2;refine iteT (decide_eq_true (by simp only;omega)) (Tot.bindIdx k rfl hk (iteF (by rw [beq_eq_false_iff_ne];simp only;omega) (Tot.bindOf (A52 hf hk) (Tot.ite (fun h1=>rStep (b.1,b.2) (by rw [wN (by omega)]) ⟨hb.1,?_⟩) (fun h1 => ?_)))))
    · intro i hi l hl hw
      by_cases e:i=k
      · subst e;rw [hw] at h1;cases h1
      · exact hb.2 i (by omega) l hl hw
    · have hw:wk f k=true:=by simpa using h1
      refine Tot.bindT (B5n hf hb.1 hM hlk hw) fun x hx=>rStep (x.1,x.2) (by rw [wN (by omega)]) ⟨hx.1,fun i hi l hl hw' => ?_⟩
      by_cases e:i=k
      · subst e;rw [hlk] at hl;cases hl;exact hx.2.2
      · have:=hb.2 i (by omega) l hl hw';exact⟨fun g=>hx.2.1 _ (this.1 g),fun g=>hx.2.1 _ (this.2 g)⟩
  · unfold f154L2;exact iteF (decide_eq_false (by simp only;omega)) (rLast hb)
theorem A9p {f:Fabric} (hf:FV f):Tot (loopF (f154L0 (List.replicate (Int.toNat f.1) 0)) ((0:Int),List.replicate (Int.toNat f.1) 0)) (fun D=>(D.length:Int)=f.1∧∀ a,0≤a→a<f.1→gt D a = -1):=by
  have hs:=hf.s;refine rng f.1.toNat (by omega) (fun k (D:List Int)=>(((k:Nat):Int),D)) (fun k D=>(D.length:Int)=f.1∧∀ a:Int,0≤a→a<k→gt D a = -1) _ _ rfl ⟨by rw [List.length_replicate];omega,fun a h0 h1=>by omega⟩ (fun k D hk hb => ?_) (fun D hb => ?_)
  · unfold f154L0;have hr:0≤(k:Int)∧(k:Int)<D.length:=by rw [hb.1];omega
    refine iteT (by simp only [List.length_replicate];exact decide_eq_true (by omega)) (bindGt hr (bindGt hr (Tot.chk (decide_eq_true (List.length_set ..)) (rStep _ (by rw [wN (by omega)]) ⟨by rw [List.length_set];exact hb.1,fun a h0 h1 => ?_⟩))));show gt (D.set (k:Int).toNat (-1)) a = -1;rw [L2 hr h0];split
    · rfl
    · exact hb.2 a h0 (by omega)
  · unfold f154L0;exact iteF (by simp only [List.length_replicate];exact decide_eq_false (by omega)) (rLast ⟨hb.1,fun a h0 h1=>hb.2 a h0 (by omega)⟩)
theorem start {f:Fabric} (hf:FV f) {tg:Int} (ht:0≤tg∧tg<f.1) {D:List Int} (hl:(D.length:Int)=f.1) (hD:∀ a,0≤a→a<f.1→gt D a = -1) :
    ∀ a,0≤a→gt (D.set tg.toNat 0) a=if a=tg then 0 else gt D a:=fun a h0=>L2 (by rw [hl];exact ht) h0
theorem A6i {f:Fabric} (hf:FV f) {tg:Int} (ht:al f tg=true):0≤tg∧tg<f.1:=by have:=A7v ht;rw [hf.dd] at this;exact this
theorem A9q {f:Fabric} (hf:FV f) {tg:Int}:Tot (f93 f tg) (fun D=>if al f tg=true then Dst f tg D else (D.length:Int)=f.1∧∀ a,0≤a→a<f.1→gt D a = -1):=by
  have hs:=hf.s;unfold f93 f154;refine Tot.bindT (P':=fun D=>if al f tg=true then Dst f tg D else (D.length:Int)=f.1∧∀ a,0≤a→a<f.1→gt D a = -1) ?_ fun D hD=>Tot.some hD;rw [mm hf];refine Tot.chk (Bool.and_eq_true_iff.2 ⟨Bool.and_eq_true_iff.2 ⟨decide_eq_true (by omega),decide_eq_true (Int.le_refl _)⟩,Bool.and_eq_true_iff.2 ⟨decide_eq_true (by omega),decide_eq_true (show f.1≤((4294967296:Nat):Int) by omega)⟩⟩) (Tot.bindT (A9p hf) fun D hD=>Tot.bindOf (A1o f tg) ?_);cases ht:al f tg with
  | false=>exact iteT rfl (Tot.some (by simpa using hD))
  | true =>
  have htr:=A6i hf ht;have htl:0≤tg∧tg<D.length:=by rw [hD.1];exact htr
  have g:=start hf htr hD.1 hD.2;have un_le:∀ L:List Int,un L≤L.length:=fun L=>List.countP_le_length;have hlen:(D.set tg.toNat 0).length≤8:=by rw [List.length_set];have:=hD.1;omega
  refine iteF rfl (iteF (decide_eq_false (by omega)) (bindGt htl (bindGt htl (Tot.chk (decide_eq_true (List.length_set ..)) ?_))));refine Tot.bindT (meas (fun s=>(s.2=[]∧Dst f tg s.1)∨∃ q M,M≤1000∧QI f tg q M s.2 s.1) (fun s=>s.2.length+un s.1) (Dst f tg) (.inr ⟨tg,1+un (D.set tg.toNat 0),?_,?_⟩) ?_ (fun s hs => ?_)) (fun x hx=>Tot.some (by rw [if_pos rfl];exact hx))
  · have:=un_le (D.set tg.toNat 0);omega
  · refine⟨by rw [List.length_set];exact hD.1,fun a h0 h1 => ?_,by rw [g tg htr.1,if_pos rfl],fun a h0 h1 e => ?_,fun a h0 h1 hp => ?_,rfl,fun x hx => ?_,fun a h0 h1 => ?_,List.pairwise_singleton ..,fun a h0 h1 hl hn b hb => ?_,rfl⟩
    · rw [g a h0,hD.2 a h0 h1];split<;>omega
    · rw [g a h0,hD.2 a h0 h1] at e;split at e
      · assumption
      · cases e
    · rw [g a h0,hD.2 a h0 h1] at hp;split at hp<;>omega
    · have:=List.mem_singleton.1 hx;subst this;exact⟨htr,by rw [g _ htr.1,if_pos rfl];omega⟩
    · rw [g a h0,hD.2 a h0 h1,g tg htr.1,if_pos rfl];split<;>omega
    · rw [g a h0,hD.2 a h0 h1] at hl;split at hl
      · rename_i e;subst e;exact absurd (List.mem_singleton_self _) hn
      · omega
  · show 1+un (D.set tg.toNat 0)≤10000;have:=un_le (D.set tg.toNat 0);omega
  · unfold f154L1;rcases hs with ⟨e,hd⟩ | ⟨q,M,hM,hq⟩
    · exact iteF (by rw [e];rfl) (Tot.out hd)
    · have hpos:∀ {Q E:List Int},QI f tg q M Q E→0<Q.length:=fun {Q E} h=>by
        have:=h.hd
        match Q,this with
        | x :: R,_=>simp
      refine iteT (decide_eq_true (by have:=hpos hq;omega)) (Tot.bindT (B5o hf hq hM) fun x hx=>Tot.chk (Bool.and_eq_true_iff.2 ⟨rfl,decide_eq_true (hpos hx.1)⟩) (Tot.next ?_ ?_))
      · rcases hx.1.pop hf (hx.1.closed hx.2) with h | ⟨q',M',h⟩
        · exact .inl h
        · refine .inr ⟨q',M',?_,h⟩;have h1:=h.mu;have h2:=hx.1.mu;rw [List.length_drop] at h1;omega
      · show(x.2.drop 1).length+un x.1<s.2.length+un s.1;have h1:=hq.mu;have h2:=hx.1.mu;have:=hpos hx.1;rw [List.length_drop];omega
end Go.Top
namespace Go.Top
open Go Go.Vc
structure LI (f:Fabric) (tg:Int) (n m:Int) (D:List Int):Prop where
  len:(D.length:Int)=f.1
  lo:∀ a,0≤a→a<f.1 → -1≤gt D a
  z:gt D tg=0
  z':∀ a,0≤a→a<f.1→gt D a=0→a=tg
  pd:∀ a,0≤a→a<f.1→0<gt D a→∃ b,Ed f a b∧gt D b=gt D a-1
  top:∀ a,0≤a→a<f.1→gt D a≤m
  nb:∀ a b,Ed f a b→0≤gt D a→gt D a<n→0≤gt D b∧gt D b≤gt D a+1
theorem LI.put {f:Fabric} (hf:FV f) {tg n:Int} {D:List Int} (h0':0≤tg) (hn0:0≤n) (h:LI f tg n (n+1) D) {a x:Int} (hx:Ed f a x) (ha:gt D a=n) (hu:gt D x<0):LI f tg n (n+1) (D.set x.toNat (n+1)):=by
  have hxr:=(hx.rng hf).2;have har:=(hx.rng hf).1;have hxl:0≤x∧x<D.length:=by rw [h.len];exact hxr
  have g:∀ b,0≤b→gt (D.set x.toNat (n+1)) b=if b=x then n+1 else gt D b:=fun b hb=>L2 hxl hb;have old:∀ b,0≤b→0≤gt D b→gt (D.set x.toNat (n+1)) b=gt D b:=fun b hb h0=>by
    rw [g b hb,if_neg (fun e=>by rw [e] at h0;omega)]
  refine⟨by rw [List.length_set];exact h.len,fun b h0 h1 => ?_,by rw [old tg h0' (by rw [h.z];exact Int.le_refl _)];exact h.z,fun b h0 h1 e => ?_,fun b h0 h1 hp => ?_,fun b h0 h1 => ?_,fun b c hb h0 hlt => ?_⟩
  · rw [g b h0];split
    · omega
    · exact h.lo b h0 h1
  · rw [g b h0] at e;split at e
    · omega
    · exact h.z' b h0 h1 e
  · rw [g b h0] at hp ⊢;split at hp
    · rename_i e;subst e;rw [if_pos rfl];exact⟨a,hx.symm,by rw [old a har.1 (by omega)];omega⟩
    · rename_i e;rw [if_neg e];obtain⟨c,hc,ec⟩:=h.pd b h0 h1 hp;exact⟨c,hc,by rw [old c (hc.rng hf).2.1 (by omega)];exact ec⟩
  · rw [g b h0];split
    · exact Int.le_refl _
    · exact h.top b h0 h1
  · have hbr:=(hb.rng hf).1;rw [g b hbr.1] at h0 hlt ⊢;split at hlt
    · omega
    · rename_i e;rw [if_neg e] at h0;rw [if_neg e];obtain⟨p1,p2⟩:=h.nb b c hb h0 hlt;rw [old c (hb.rng hf).2.1 p1];exact⟨p1,p2⟩
def LP (f:Fabric) (n:Int) (k:Nat) (D:List Int):Prop:=∀ i,i<k→∀ l,f.2.1[i]? = some l→wk f i=true→(gt D l.1=n→0≤gt D l.2.1)∧(gt D l.2.1=n→0≤gt D l.1)
theorem LP.put {f:Fabric} (hf:FV f) {n:Int} {k:Nat} {D:List Int} (h:LP f n k D) {x:Int} (hxl:0≤x∧x<D.length) (hn:0≤n):LP f n k (D.set x.toNat (n+1)):=by
  intro i hi l hl hw;have hE:Ed f l.1 l.2.1:=⟨i,l,hl,hw,.inl ⟨rfl,rfl⟩⟩;have hr:=hE.rng hf;have:=h i hi l hl hw;rw [L2 hxl hr.1.1,L2 hxl hr.2.1];constructor
  · intro e;split at e
    · omega
    · split
      · omega
      · exact this.1 e
  · intro e;split at e
    · omega
    · split
      · omega
      · exact this.2 e
theorem B6n {f:Fabric} (hf:FV f) {tg:Int} (h0':0≤tg) {n:Nat} (hn:n≤100) {D0 D:List Int} (h:LI f tg n (n+1) D) :
    Tot (loopF (f48L2 f ((n:Int),D0)) ((0:Int),D)) (fun x=>LI f tg n (n+1) x∧LP f n f.2.1.length x):=by
  have hl:=hf.l;refine rng f.2.1.length (by omega) (fun k (b:List Int)=>(((k:Nat):Int),b)) (fun k b=>LI f tg n (n+1) b∧LP f n k b) _ D rfl ⟨h,fun i hi=>absurd hi (Nat.not_lt_zero _)⟩ (fun k b hk hb => ?_) (fun b hb => ?_)
  · have hlk:f.2.1[k]? = some f.2.1[k]:=List.getElem?_eq_getElem hk;have hv:=hf.lk _ (List.getElem_mem hk);have hw:w64 ((n:Int)+1)=(n:Int)+1:=C6 (by omega) (by omega);unfold f48L2;refine iteT (decide_eq_true (by simp only;omega)) (Tot.bindIdx k rfl hk (Tot.bindOf (A9o hf hk) (Tot.ite (fun h1=>rStep b (by rw [wN (by omega)]) ⟨hb.1,?_⟩) (fun h1 => ?_))))
    · intro i hi l hl hw
      by_cases e:i=k
      · subst e;rw [hw] at h1;cases h1
      · exact hb.2 i (by omega) l hl hw
    · have hwk:wk f k=true:=by simpa using h1
      generalize hL:f.2.1[k]=L at *;obtain⟨A,B,cp⟩:=L;simp only;have hE:Ed f A B:=⟨k,_,hlk,hwk,.inl ⟨rfl,rfl⟩⟩;have rA:∀ {X:List Int},LI f tg n (n+1) X→0≤A∧A<X.length:=fun h=>by rw [h.len];exact hv.a
      have rB:∀ {X:List Int},LI f tg n (n+1) X→0≤B∧B<X.length:=fun h=>by rw [h.len];exact hv.b
      have fin:∀ X,LI f tg n (n+1) X→LP f n k X→(gt X A=n→0≤gt X B)→(gt X B=n→0≤gt X A)→LI f tg n (n+1) X∧LP f n (k+1) X:=fun X h1 h2 h3 h4=>⟨h1,fun i hi l hl hw=>by
        by_cases e:i=k
        · subst e;rw [hlk] at hl;cases hl;exact⟨h3,h4⟩
        · exact h2 i (by omega) l hl hw⟩
      refine Tot.jnR (fun m2:List Int=>LI f tg n (n+1) m2∧LP f n k m2∧(gt m2 A=n→0≤gt m2 B)) (fun j hj=>Tot.jnR (fun m:Bool=>m=true↔(gt b A=n∧gt b B<0)) (fun j3 hj3=>bindGt (rA hb.1) (bindGt (rA hb.1) (Tot.ite (fun h1=>bindGt (rB hb.1) (bindGt (rB hb.1) (hj3 _ ?_))) (fun h1=>hj3 _ ?_)))) (fun m hm=>Tot.ite (fun h1=>bindGt (rB hb.1) (bindGt (rB hb.1) (Tot.chk (decide_eq_true (List.length_set ..)) (hj _ ?_)))) (fun h1=>hj _ ⟨hb.1,hb.2,?_⟩))) (fun m2 hm2=>Tot.jnR (fun m:Bool=>m=true↔(gt m2 B=n∧gt m2 A<0)) (fun j3 hj3=>bindGt (rB hm2.1) (bindGt (rB hm2.1) (Tot.ite (fun h1=>bindGt (rA hm2.1) (bindGt (rA hm2.1) (hj3 _ ?_))) (fun h1=>hj3 _ ?_)))) (fun m hm=>Tot.ite (fun h1=>bindGt (rA hm2.1) (bindGt (rA hm2.1) (Tot.chk (decide_eq_true (List.length_set ..)) (rStep _ (by rw [wN (by omega)]) ?_)))) (fun h1=>rStep m2 (by rw [wN (by omega)]) (fin _ hm2.1 hm2.2.1 hm2.2.2 ?_))))
      · have:=eq_of_beq h1;simp [this]
      · have:gt b A≠n:=fun e=>by simp [e] at h1
        simp [this]
      · obtain⟨p1,p2⟩:=hm.1 h1;rw [hw];refine⟨hb.1.put hf h0' (by omega) hE p1 p2,hb.2.put hf (rB hb.1) (by omega),fun _ => ?_⟩;rw [L2 (rB hb.1) hv.b.1,if_pos rfl];omega
      · intro e;exact Classical.byContradiction fun g=>by rw [hm.2 ⟨e,Int.not_le.1 g⟩] at h1;cases h1
      · have:=eq_of_beq h1;simp [this]
      · have:gt m2 B≠n:=fun e=>by simp [e] at h1
        simp [this]
      · obtain⟨p1,p2⟩:=hm.1 h1;rw [hw];refine fin _ (hm2.1.put hf h0' (by omega) hE.symm p1 p2) (hm2.2.1.put hf (rA hm2.1) (by omega)) (fun e => ?_) (fun _ => ?_)
        · rw [L2 (rA hm2.1) hv.a.1,if_pos rfl] at e;omega
        · rw [L2 (rA hm2.1) hv.a.1,if_pos rfl];omega
      · intro e;exact Classical.byContradiction fun g=>by rw [hm.2 ⟨e,Int.not_le.1 g⟩] at h1;cases h1
  · unfold f48L2;exact iteF (decide_eq_false (by simp only;omega)) (rLast hb)
theorem LI.up {f:Fabric} (hf:FV f) {tg n:Int} {D:List Int} (h:LI f tg n (n+1) D) (hp:LP f n f.2.1.length D):LI f tg (n+1) (n+1) D :=
  ⟨h.len,h.lo,h.z,h.z',h.pd,h.top,fun a b hb h0 hlt=>by
    by_cases e:gt D a<n
    · exact h.nb a b hb h0 e
    · have en:gt D a=n:=by omega
      have hbr:=(hb.rng hf).2;refine⟨?_,by rw [en];exact h.top b hbr.1 hbr.2⟩;obtain⟨i,l,h1,h2,h3⟩:=hb;have:=hp i (List.getElem?_eq_some_iff.1 h1).1 l h1 h2;rcases h3 with h3 | h3
      · rw [← h3.2];exact this.1 (by rw [h3.1];exact en)
      · rw [← h3.2];exact this.2 (by rw [h3.1];exact en)⟩
theorem B5p {f:Fabric} (hf:FV f) {tg:Int}:Tot (f48 f tg) (fun D=>if al f tg=true then Dst f tg D else (D.length:Int)=f.1∧∀ x∈D,x = -1):=by
  have hs:=hf.s;unfold f48;refine Tot.bindT (rng f.1.toNat (by omega) (fun k (b:List Int)=>(((k:Nat):Int),b)) (fun k b=>b.length=k∧∀ x∈b,x = -1) (fun D:List Int=>(D.length:Int)=f.1∧∀ x∈D,x = -1) [] rfl ⟨rfl,fun x hx=>nomatch hx⟩ (fun k b hk hb => ?_) (fun b hb => ?_)) (fun D hD => ?_)
  · unfold f48L0;refine iteT (decide_eq_true (by simp only;omega)) (Tot.chk (limB (by rw [List.length_append,hb.1];simp only [List.length_singleton];omega)) (rStep _ (by rw [wN (by omega)]) ⟨by rw [List.length_append,hb.1];rfl,fun x hx => ?_⟩));rcases List.mem_append.1 hx with hx | hx
    · exact hb.2 x hx
    · exact List.mem_singleton.1 hx
  · unfold f48L0;exact iteF (decide_eq_false (by simp only;omega)) (rLast ⟨by rw [hb.1];omega,hb.2⟩)
  · refine Tot.bindOf (A3j f tg) ?_;cases ht:al f tg with
    | false=>exact iteT rfl (Tot.some (by simpa using hD))
    | true =>
    have htr:=A6i hf ht;have hDg:∀ a,0≤a→a<f.1→gt D a = -1:=fun a h0 h1=>hD.2 _ (A3k ⟨h0,by rw [hD.1];exact h1⟩);have htl:0≤tg∧tg<D.length:=by rw [hD.1];exact htr
    have g:=start hf htr hD.1 hDg;refine iteF rfl (bindGt htl (bindGt htl (Tot.chk (decide_eq_true (List.length_set ..)) ?_)));refine Tot.bindT (rng f.1.toNat (by omega) (fun k (b:List Int)=>(((k:Nat):Int),b)) (fun k b=>LI f tg k k b) (Dst f tg) (D.set tg.toNat 0) rfl ?_ (fun k b hk hb => ?_) (fun b hb => ?_)) (fun x hx=>Tot.some (by rw [if_pos rfl];exact hx))
    · refine⟨by rw [List.length_set];exact hD.1,fun a h0 h1 => ?_,by rw [g tg htr.1,if_pos rfl],fun a h0 h1 e => ?_,fun a h0 h1 hp => ?_,fun a h0 h1 => ?_,fun a b hb h0 hlt=>absurd h0 (by omega)⟩
      · rw [g a h0,hDg a h0 h1];split<;>omega
      · rw [g a h0,hDg a h0 h1] at e;split at e
        · assumption
        · cases e
      · rw [g a h0,hDg a h0 h1] at hp;split at hp<;>omega
      · rw [g a h0,hDg a h0 h1];split<;>omega
    · unfold f48L1;refine iteT (decide_eq_true (by simp only;omega)) (Tot.bindT (B6n hf htr.1 (by omega) ⟨hb.len,hb.lo,hb.z,hb.z',hb.pd,fun a h0 h1=>Int.le_trans (hb.top a h0 h1) (by omega),hb.nb⟩) fun x hx=>rStep x (by rw [wN (by omega)]) ?_);exact hx.1.up hf hx.2
    · unfold f48L1;refine iteF (decide_eq_false (by simp only;omega)) (rLast ⟨hb.len,hb.lo,hb.z,hb.z',fun a c hc h0=>hb.nb a c hc h0 ?_,hb.pd⟩);have:=A3l hf hb.len hb.pd (hc.rng hf).1.1 (hc.rng hf).1.2;omega
end Go.Top
namespace Go.Top
open Go Go.Vc
def At (l:Link) (a e:Int):Prop:=(l.1=a∧l.2.1=e)∨(l.2.1=a∧l.1=e)
theorem B5q {f:Fabric} (hf:FV f) {tg:Int} {D:List Int} (hD:Dst f tg D) {a:Int} (ha:0≤a∧a<f.1) (hp:0<gt D a) (out:List Int) :
    Tot (loopF (f46L1 f D (a,out)) ((0:Int),[],[])) (fun x=>x.1.length=x.2.length∧x.2≠[]∧∀ e∈x.2,(0≤e∧e<f.1)∧gt D e=gt D a-1):=by
  have hl:=hf.l;have hs:=hf.s;have hup:=A3l hf hD.len hD.pd ha.1 ha.2;have hw:w64 (gt D a-1)=gt D a-1:=C6 (by omega) (by omega);refine rng f.2.1.length (by omega) (fun k (b:List Int×List Int)=>(((k:Nat):Int),b.1,b.2)) (fun k b=>b.1.length=b.2.length∧b.2.length≤k∧(∀ e∈b.2,(0≤e∧e<f.1)∧gt D e=gt D a-1)∧∀ i l e,i<k→f.2.1[i]? = some l→wk f i=true→At l a e→gt D e=gt D a-1→b.2≠[]) _ ([],[]) rfl ⟨rfl,Nat.le_refl _,(fun e he=>nomatch he),fun i l e hi=>absurd hi (Nat.not_lt_zero _)⟩ (fun k b hk hb => ?_) (fun b hb => ?_)
  · obtain⟨h1,h2,h3,h4⟩:=hb;have hlk:f.2.1[k]? = some f.2.1[k]:=List.getElem?_eq_getElem hk;have hv:=hf.lk _ (List.getElem_mem hk);have hal:0≤a∧a<D.length:=by rw [hD.len];exact ha
    obtain⟨r,er,hr⟩:∃ r:Int×Bool,f94 f.2.1[k] a=some r∧((r.2=true∧(0≤r.1∧r.1<f.1)∧∀ e,At f.2.1[k] a e→e=r.1)∨(r.2=false∧∀ e,¬ At f.2.1[k] a e)):=by
      unfold f94
      by_cases hA:a=f.2.1[k].1
      · exact⟨_,if_pos (beq_iff_eq.2 hA),.inl ⟨rfl,hv.b,fun e he=>he.elim (fun h=>h.2.symm) fun h=>absurd (hA.symm.trans h.1.symm) hv.ne⟩⟩
      · rw [if_neg (by simpa using hA)]
        by_cases hB:a=f.2.1[k].2.1
        · exact⟨_,if_pos (beq_iff_eq.2 hB),.inl ⟨rfl,hv.a,fun e he=>he.elim (fun h=>absurd h.1.symm hA) fun h=>h.2.symm⟩⟩
        · exact⟨_,if_neg (by simpa using hB),.inr ⟨rfl,fun e he=>he.elim (fun h=>hA h.1.symm) fun h=>hB h.1.symm⟩⟩
    unfold f46L1;refine iteT (decide_eq_true (by simp only;omega)) (Tot.bindIdx k rfl hk (Tot.bindOf er (Tot.jnR (fun m:Bool=>(m=true→r.2=true∧gt D r.1=gt D a-1)∧(m=false→∀ e,wk f k=true→At f.2.1[k] a e→gt D e≠gt D a-1)) (fun j hj => ?_) (fun m hm=>Tot.ite (fun g => ?_) (fun g=>rStep (b.1,b.2) (by rw [wN (by omega)]) ⟨h1,Nat.le_succ_of_le h2,h3,fun i l e hi hl hw' he hg => ?_⟩)))))
    · rcases hr with ⟨r2,rr,ru⟩ | ⟨r2,rn⟩
      · have hrl:0≤r.1∧r.1<D.length:=by rw [hD.len];exact rr
        refine iteT r2 (iteT (decide_eq_true hrl.2) (Tot.bindOf (A52 hf hk) (Tot.ite (fun g=>bindGt hrl (bindGt hal (hj _ ⟨fun g2 => ?_,fun g2 e _ he hg => ?_⟩))) (fun g=>hj _ ⟨(nomatch ·),fun _ e hw'=>by rw [g] at hw';cases hw'⟩))))
        · rw [hw] at g2;exact⟨r2,eq_of_beq g2⟩
        · rw [hw,← ru e he,hg] at g2;simp at g2
      · exact iteF r2 (hj _ ⟨(nomatch ·),fun _ e _ he=>absurd he (rn e)⟩)
    · obtain⟨g1,g2⟩:=hm.1 g;rcases hr with ⟨r2,rr,ru⟩ | ⟨r2,_⟩
      · refine Tot.chk (limB (by rw [List.length_append];simp only [List.length_singleton];omega)) (Tot.chk (limB (by rw [List.length_append];simp only [List.length_singleton];omega)) (rStep (b.1++[(k:Int)],b.2++[r.1]) (by rw [wN (by omega)]) ⟨by rw [List.length_append,List.length_append,h1];rfl,by rw [List.length_append];simp only [List.length_singleton];omega,fun e he => ?_,fun _ _ _ _ _ _ _ _=>by simp⟩));rcases List.mem_append.1 he with he | he
        · exact h3 e he
        · rw [List.mem_singleton.1 he];exact⟨rr,g2⟩
      · rw [r2] at g1;cases g1
    · by_cases e':i=k
      · subst e';rw [hlk] at hl;cases hl;exact absurd hg (hm.2 g e hw' he)
      · exact h4 i l e (by omega) hl hw' he hg
  · unfold f46L1;obtain⟨c,hE,hc⟩:=hD.pd a ha.1 ha.2 hp;obtain⟨i,l,hi,hw',hat⟩:=hE;exact iteF (decide_eq_false (by simp only;omega)) (rLast ⟨hb.1,hb.2.2.2 i l c (List.getElem?_eq_some_iff.1 hi).1 hi hw' hat hc,hb.2.2.1⟩)
theorem B5r {f:Fabric} (hf:FV f) {tg:Int} {D:List Int} (hD:Dst f tg D) {a:Int} (ha:0≤a∧a<f.1) {n:Nat} (hn:gt D a=n) (h:Int) :
    Tot (loopF (f46L0 f tg h D) (a,[])) (fun x=>∃ w,x = .inl w):=by
  have hs:=hf.s;have hup:=A3l hf hD.len hD.pd ha.1 ha.2;refine rng n (by omega) (fun k (b:Int×List Int)=>b) (fun k b=>(0≤b.1∧b.1<f.1)∧k≤n∧gt D b.1=((n-k:Nat):Int)∧b.2.length=k) _ (a,[]) rfl ⟨ha,Nat.zero_le _,hn,rfl⟩ (fun k b hk hb => ?_) (fun b hb => ?_)
  · obtain⟨hr,_,hg,hlen⟩:=hb;have hne':b.1≠tg:=fun e=>by rw [e,hD.z] at hg;omega
    unfold f46L0;refine iteT (bne_iff_ne.2 hne') (Tot.bindT (B5q hf hD hr (by omega) b.2) fun x ⟨x1,x2,x3⟩ => ?_);have hpos:0<x.2.length:=List.length_pos_iff.2 x2;have hm0:0≤Int.tmod (maxI 0 h) (x.1.length:Int):=Int.tmod_nonneg _ (by unfold maxI;split<;>omega);have hm1:=Int.tmod_lt_of_pos (maxI 0 h) (show(0:Int)<(x.1.length:Int) by omega);obtain⟨i,hi⟩:∃ i:Nat,Int.tmod (maxI 0 h) (x.1.length:Int)=i:=⟨_,(Int.toNat_of_nonneg hm0).symm⟩;have i1:i<x.1.length:=by omega
    have i2:i<x.2.length:=by omega
    have hz:((x.1.length:Int)==0)=false:=by rw [beq_eq_false_iff_ne];omega
    refine iteF hz (Tot.chk (by rw [bne,hz];rfl) (Tot.bindIdx i hi i1 (Tot.bindIdx i hi i1 (Tot.chk (limB (by rw [List.length_append];simp only [List.length_singleton];omega)) (Tot.bindIdx i hi i2 (Tot.bindIdx i hi i2 (rStep _ rfl ⟨(x3 _ (List.getElem_mem i2)).1,hk,?_,?_⟩)))))))
    · rw [(x3 _ (List.getElem_mem i2)).2,hg];omega
    · rw [List.length_append,hlen];rfl
  · obtain⟨hr,_,hg,_⟩:=hb;rw [Nat.sub_self] at hg;have:b.1=tg:=hD.z' _ hr.1 hr.2 hg;unfold f46L0;exact iteF (by rw [this];simp) (rLast ⟨_,rfl⟩)
inductive Rc (f:Fabric):Int→Int→Prop
  | refl {a:Int} (h:al f a=true):Rc f a a
  | step {a b c:Int} (h:Ed f a b) (k:Rc f b c):Rc f a c
theorem Rc.trans {f:Fabric} {a b c:Int} (h:Rc f a b) (k:Rc f b c):Rc f a c:=by
  induction h with
  | refl _=>exact k
  | step e _ ih=>exact .step e (ih k)
theorem Rc.symm {f:Fabric} {a b:Int} (h:Rc f a b):Rc f b a:=by
  induction h with
  | refl h=>exact .refl h
  | step e _ ih=>exact ih.trans (.step e.symm (.refl e.al.1))
theorem Rc.als {f:Fabric} {a b:Int} (h:Rc f a b):al f a=true∧al f b=true:=by
  induction h with
  | refl h=>exact⟨h,h⟩
  | step e _ ih=>exact⟨e.al.1,ih.2⟩
theorem Dst.rc {f:Fabric} (hf:FV f) {tg:Int} {D:List Int} (hD:Dst f tg D) (ht:al f tg=true) {a:Int} (h0:0≤a) (h1:a<f.1):0≤gt D a↔Rc f a tg:=by
  constructor
  · have key:∀ (n:Nat) (a:Int),0≤a→a<f.1→gt D a=n→Rc f a tg:=by
      intro n;induction n with
      | zero=>intro a h0 h1 e;rw [hD.z' a h0 h1 e];exact .refl ht
      | succ n ih =>
        intro a h0 h1 e;obtain⟨b,hb,eb⟩:=hD.pd a h0 h1 (by omega);exact .step hb (ih b (hb.rng hf).2.1 (hb.rng hf).2.2 (by omega))
    intro h;exact key (gt D a).toNat a h0 h1 (by omega)
  · intro h;have:∀ {a b:Int},Rc f a b→b=tg→0≤gt D a:=by
      intro a b h;induction h with
      | refl _=>intro e;rw [e,hD.z];exact Int.le_refl _
      | step e _ ih=>intro et;exact(hD.nb _ _ e.symm (ih et)).1
    exact this h rfl
theorem B3y {f:Fabric} (hf:FV f) {a b:Int} (ha:0≤a∧a<f.1) (h:Int):Tot (f46 f a b h) (fun w=>w.2=true↔Rc f a b):=by
  unfold f46;refine Tot.bindT (A9q hf) fun D hD=>iteF (decide_eq_false (by omega)) ?_;cases hb:al f b with
  | false =>
    rw [if_neg (by rw [hb];simp)] at hD;have hal:0≤a∧a<D.length:=by rw [hD.1];exact ha
    exact iteF (decide_eq_false (by omega)) (bindGt hal (iteT (by rw [hD.2 a ha.1 ha.2];rfl) (Tot.some ⟨(nomatch ·),fun k=>by rw [k.als.2] at hb;cases hb⟩)))
  | true =>
    rw [if_pos hb] at hD;have hal:0≤a∧a<D.length:=by rw [hD.len];exact ha
    have hr:=hD.rc hf hb ha.1 ha.2;refine iteF (decide_eq_false (by omega)) (bindGt hal (Tot.ite (fun g=>Tot.some ⟨(nomatch ·),fun k => ?_⟩) (fun g => ?_)))
    · have:=hr.2 k;have:=of_decide_eq_true g;omega
    · have g:¬ gt D a<0:=of_decide_eq_false g;obtain⟨n,hn⟩:∃ n:Nat,gt D a=n:=⟨(gt D a).toNat,by omega⟩;refine Tot.bindT (B5r hf hD ha hn h) fun x ⟨w,e⟩ => ?_;rw [e];exact Tot.some ⟨fun _=>hr.1 (by omega),fun _=>rfl⟩
def Least (f:Fabric) (s v:Int):Prop:=(al f s=false∧v = -1)∨(al f s=true∧Rc f v s∧0≤v∧∀ t,0≤t→t<v→¬ Rc f t s)
theorem Least.iff {f:Fabric} {s t v w:Int} (h:Least f s v) (k:Least f t w):(v=w∧0≤v)↔Rc f s t:=by
  constructor
  · rintro⟨e,h0⟩;subst e;rcases h with ⟨_,h⟩ | ⟨_,h,_⟩
    · omega
    · rcases k with ⟨_,k⟩ | ⟨_,k,_⟩
      · omega
      · exact h.symm.trans k
  · intro r;rcases h with ⟨h,_⟩ | ⟨_,h1,h2,h3⟩
    · rw [r.als.1] at h;cases h
    · rcases k with ⟨k,_⟩ | ⟨_,k1,k2,k3⟩
      · rw [r.als.2] at k;cases k
      · have e1:¬ v<w:=fun g=>k3 v h2 g (h1.trans r);have e2:¬ w<v:=fun g=>h3 w k2 g (k1.trans r.symm);exact⟨by omega,h2⟩
theorem A9r {f:Fabric} (hf:FV f):Tot (f17 f) (fun P=>(P.length:Int)=f.1∧∀ s:Nat,(s:Int)<f.1→∃ v,P[s]? = some v∧Least f s v):=by
  have hs:=hf.s;unfold f17;refine Tot.bindT (rng f.1.toNat (by omega) (fun k (b:List Int)=>(((k:Nat):Int),b)) (fun k b=>b.length=k∧∀ s:Nat,s<k→∃ v,b[s]? = some v∧Least f s v) (fun P=>(P.length:Int)=f.1∧∀ s:Nat,(s:Int)<f.1→∃ v,P[s]? = some v∧Least f s v) [] rfl ⟨rfl,fun s h=>absurd h (Nat.not_lt_zero _)⟩ (fun k b hk hb => ?_) (fun b hb => ?_)) (fun P hP=>Tot.some hP)
  · unfold f17L0;refine iteT (decide_eq_true (by simp only;omega)) (Tot.bindT (B5p hf) fun D hD=>Tot.bindT (P':=Least f (k:Int)) ?_ fun v hv=>Tot.chk (limB (by rw [List.length_append,hb.1];simp only [List.length_singleton];omega)) (rStep _ (by rw [wN (by omega)]) ⟨by rw [List.length_append,hb.1];rfl,fun s h => ?_⟩))
    · have hlen:(D.length:Int)=f.1:=by
        cases ht:al f (k:Int) with
        | true=>rw [if_pos ht] at hD;exact hD.len
        | false=>rw [if_neg (by rw [ht];simp)] at hD;exact hD.1
      refine rng D.length (by omega) (fun i (v:Int)=>(v,(i:Int))) (fun i v=>(v = -1∧∀ t:Int,0≤t→t<i→gt D t<0)∨(0≤v∧v<f.1∧0≤gt D v∧∀ t:Int,0≤t→t<v→gt D t<0)) _ (-1) rfl (.inl ⟨rfl,fun t h0 h1=>absurd h0 (by omega)⟩) (fun i v hi hv => ?_) (fun v hv => ?_)
      · have hr:0≤(i:Int)∧(i:Int)<D.length:=⟨by omega,by omega⟩;unfold f17L1;refine iteT (decide_eq_true hr.2) (bindGt hr (Tot.ite (fun g => ?_) (fun g=>rStep v (by rw [wN (by omega)]) ?_)))
        · have g:=of_decide_eq_true g;refine Tot.ite (fun g2=>rStep (i:Int) (by rw [wN (by omega)]) (.inr ⟨by omega,by omega,g,fun t h0 h1 => ?_⟩)) (fun g2=>rStep v (by rw [wN (by omega)]) ?_)
          · rcases hv with ⟨_,hv⟩ | ⟨hv,_⟩
            · exact hv t h0 h1
            · have:=of_decide_eq_true g2;simp only at this;omega
          · rcases hv with ⟨hv,_⟩ | hv
            · have:=of_decide_eq_false g2;simp only at this;omega
            · exact .inr hv
        · have g:¬ 0≤gt D (i:Int):=of_decide_eq_false g;rcases hv with ⟨e,hv⟩ | hv
          · refine .inl ⟨e,fun t h0 h1 => ?_⟩
            by_cases e:t=i
            · rw [e];omega
            · exact hv t h0 (by omega)
          · exact .inr hv
      · unfold f17L1;refine iteF (decide_eq_false (by simp only;omega)) (rLast ?_);cases ht:al f (k:Int) with
        | false =>
          rw [if_neg (by rw [ht];simp)] at hD;refine .inl ⟨ht,?_⟩;rcases hv with ⟨e,_⟩ | ⟨h0,h1,h2,_⟩
          · exact e
          · have:=hD.2 _ (A3k ⟨h0,by omega⟩);omega
        | true =>
          rw [if_pos ht] at hD;have kr:=A6i hf ht;rcases hv with ⟨_,hv⟩ | ⟨h0,h1,h2,h3⟩
          · have:=hv (k:Int) kr.1 (by omega);rw [hD.z] at this;omega
          · exact .inr ⟨ht,(hD.rc hf ht h0 h1).1 h2,h0,fun t t0 t1 g=>by have:=(hD.rc hf ht t0 (by omega)).2 g;have:=h3 t t0 t1;omega⟩
    · by_cases e:s<k
      · rw [List.getElem?_append_left (by rw [hb.1];exact e)];exact hb.2 s e
      · have:s=k:=by omega
        subst this;rw [List.getElem?_append_right (by rw [hb.1];exact Nat.le_refl _),hb.1,Nat.sub_self];exact⟨v,rfl,hv⟩
  · unfold f17L0;exact iteF (decide_eq_false (by simp only;omega)) (rLast ⟨by rw [hb.1];omega,fun s h=>hb.2 s (by omega)⟩)
end Go.Top
namespace Go.Top
open Go Go.Vc
theorem draw {l:List Int} (hl:l.length≤9223372036854775807) {n:Nat} {N:Int} (e:N=n) (hn:0<n) (hn2:n≤1000) {k:Nat} (hk:k≤l.length) {α:Type} {P:α→Prop} {g:Int×Int→Option α} (h:∀ v k':Nat,v<n→k'≤l.length→Tot (g ((v:Int),(k':Int))) P):Tot ((f25 N l (k:Int)).bind g) P:=by
  obtain⟨v,k',e1,h1,h2⟩:=H8 hl hn (by omega) hk;rw [e];exact Tot.bindOf e1 (h v k' h1 h2)
theorem B3z {l:List Int} (hl:l.length≤9223372036854775807) {k:Nat} (hk:k≤l.length):Tot (f16 4 l (k:Int)) (fun x=>FV x.2∧4≤x.2.1):=by
  unfold f16;refine draw hl (n:=4) rfl (by decide) (by decide) hk fun s k1 hs hk1 => ?_;have eS:minI (w64 (4+((s:Int),(k1:Int)).1)) 8=((4+s:Nat):Int):=by
    show minI (w64 (4+(s:Int))) 8=_;rw [C6 (by omega) (by omega)];unfold minI;rw [if_neg (by omega)];omega
  obtain⟨S,hS⟩:∃ S:Nat,4+s=S:=⟨_,rfl⟩;rw [hS] at eS;have hS1:4≤S∧S≤7:=by omega
  have e1:w64 ((S:Int)-1)=((S-1:Nat):Int):=by rw [C6 (by omega) (by omega)];omega
  have cap:∀ c:Nat,c<10→w64 (1+(c:Int))=((1+c:Nat):Int):=fun c hc=>by rw [C6 (by omega) (by omega)];omega
  refine draw hl (n:=12) rfl (by decide) (by decide) hk1 fun c k2 hc hk2 => ?_
  let J:Nat→Int×List Link→Prop:=fun i b=>b.2.length≤i∧(∀ x∈b.2,LV S x)∧∃ k:Nat,b.1=k∧k≤l.length
  refine Tot.bindT (P':=fun x=>J 11 x) (rng c (by omega) (fun i (b:Int×List Link)=>(((c-i:Nat):Int),b.1,b.2)) J _ ((k2:Int),[]) rfl ⟨Nat.le_refl _,fun x hx=>(nomatch hx),k2,rfl,hk2⟩ (fun i b hi hb => ?_) (fun b hb => ?_)) fun x hx => ?_
  · obtain⟨h1,h2,q,e2,hq⟩:=hb;unfold f16L0;rw [eS];simp only;rw [e2,e1];refine iteT (decide_eq_true (by omega)) (iteT (decide_eq_true (by omega)) (draw hl (n:=S) rfl (by omega) (by omega) hq fun a q1 ha hq1=>draw hl (n:=S-1) rfl (by omega) (by omega) hq1 fun d q2 hd hq2=>Tot.chk (bne_iff_ne.2 (by omega)) (draw hl (n:=10) rfl (by decide) (by decide) hq2 fun cp q3 hcp hq3 => ?_)));simp only;rw [cap cp hcp,show w64 ((a:Int)+1)=((a+1:Nat):Int) from wN (by omega),show w64 (((a+1:Nat):Int)+(d:Int))=((a+1+d:Nat):Int) from by rw [C6 (by omega) (by omega)];omega,Int.tmod_eq_emod_of_nonneg (by omega),show w64 (((c-i:Nat):Int)-1)=((c-(i+1):Nat):Int) from by rw [C6 (by omega) (by omega)];omega];have hm:((a+1+d:Nat):Int) % (S:Int)=(((a+1+d) % S:Nat):Int):=rfl;rw [hm];have hlt:(a+1+d) % S<S:=Nat.mod_lt _ (by omega);have hne:(a+1+d) % S≠a:=by
      by_cases h:a+1+d<S
      · rw [Nat.mod_eq_of_lt h];omega
      · rw [Nat.mod_eq_sub_mod (by omega),Nat.mod_eq_of_lt (by omega)];omega
    refine Tot.chk (limB (by rw [List.length_append];simp only [List.length_singleton];omega)) (rStep ((q3:Int),b.2++[((a:Int),(((a+1+d) % S:Nat):Int),((1+cp:Nat):Int))]) rfl ⟨by rw [List.length_append];simp only [List.length_singleton];omega,fun x hx => ?_,q3,rfl,hq3⟩);rcases List.mem_append.1 hx with hx | hx
    · exact h2 x hx
    · rw [List.mem_singleton.1 hx];exact⟨⟨by simp only;omega,by simp only;omega⟩,⟨by simp only;omega,by simp only;omega⟩,by simp only;omega,⟨by simp only;omega,by simp only;omega⟩⟩
  · unfold f16L0;refine iteF (by rw [Nat.sub_self];rfl) (rLast ⟨Nat.le_trans hb.1 (by omega),hb.2⟩)
  · obtain⟨h1,h2,q,e2,hq⟩:=hx
    let J2:Nat→Int×List Link→Prop:=fun i b=>b.2.length≤11+i∧(∀ x∈b.2,LV S x)∧∃ k:Nat,b.1=k∧k≤l.length
    refine Tot.bindT (P':=fun x=>J2 6 x) (rng (S-1) (by omega) (fun i (b:Int×List Link)=>(((1+i:Nat):Int),b.1,b.2)) J2 _ (x.1,x.2) rfl ⟨h1,h2,q,e2,hq⟩ (fun i b hi hb => ?_) (fun b hb => ?_)) fun y hy => ?_
    · obtain⟨g1,g2,p,ep,hp⟩:=hb;unfold f16L1;rw [eS];simp only;rw [ep];refine iteT (decide_eq_true (by omega)) (draw hl (n:=4) rfl (by decide) (by decide) hp fun v p1 hv hp1=>Tot.ite (fun hv0=>draw hl (n:=1+i) rfl (by omega) (by omega) hp1 fun b' p2 hb' hp2=>draw hl (n:=10) rfl (by decide) (by decide) hp2 fun cp p3 hcp hp3 => ?_) (fun _=>rStep ((p1:Int),b.2) (by rw [wN (by omega)];simp only [Nat.add_assoc]) ⟨by simp only;omega,g2,p1,rfl,hp1⟩));simp only;rw [cap cp hcp];refine Tot.chk (limB (by rw [List.length_append];simp only [List.length_singleton];omega)) (rStep ((p3:Int),b.2++[(((1+i:Nat):Int),(b':Int),((1+cp:Nat):Int))]) (by rw [wN (by omega)];simp only [Nat.add_assoc]) ⟨by rw [List.length_append];simp only [List.length_singleton];omega,fun x hx => ?_,p3,rfl,hp3⟩);rcases List.mem_append.1 hx with hx | hx
      · exact g2 x hx
      · rw [List.mem_singleton.1 hx];exact⟨⟨by simp only;omega,by simp only;omega⟩,⟨by simp only;omega,by simp only;omega⟩,by simp only;omega,⟨by simp only;omega,by simp only;omega⟩⟩
    · unfold f16L1;rw [eS];exact iteF (decide_eq_false (by simp only;omega)) (rLast ⟨Nat.le_trans hb.1 (by omega),hb.2⟩)
    · obtain⟨g1,g2,p,ep,hp⟩:=hy;have bools:∀ {n:Nat} (hn:n≤100) {tb:Int×Int×List Bool→Option ((Int×List Bool)⊕(Int×Int×List Bool))} {p:Nat},p≤l.length→(∀ (i p:Nat) (bs:List Bool),i<n→p≤l.length→bs.length=i→∃ (v:Bool) (p':Nat),p'≤l.length∧tb ((i:Int),(p:Int),bs)=some (.inr (((i+1:Nat):Int),(p':Int),bs++[v])))→(∀ (p:Int) bs,tb ((n:Int),p,bs)=some (.inl (p,bs))) →
          Tot (loopF tb ((0:Int),(p:Int),[])) (fun x=>x.2.length=n∧∃ k:Nat,x.1=k∧k≤l.length):=fun {n} hn {tb p} hp h he =>
        rng n (by omega) (fun i (b:Int×List Bool)=>((i:Int),b.1,b.2)) (fun i b=>b.2.length=i∧∃ k:Nat,b.1=k∧k≤l.length) _ ((p:Int),[]) rfl ⟨rfl,p,rfl,hp⟩ (fun i b hi hb=>by
          obtain⟨b1,b2⟩:=b;obtain⟨f1,p,ep,hp⟩:=hb;simp only at ep f1;subst ep;obtain⟨v,p',hp',ev⟩:=h i p b2 hi hp f1;exact⟨_,ev,(((p':Int),b2++[v]):Int×List Bool),rfl,by rw [List.length_append,f1];rfl,p',rfl,hp'⟩) (fun b hb=>⟨_,he b.1 b.2,hb⟩)
      rw [ep];refine Tot.bindT (bools (n:=y.2.length) (by omega) hp (fun i p bs hi hp hb => ?_) (fun p bs => ?_)) fun z hz => ?_
      · obtain⟨v,p',e,_,hp'⟩:=H8 hl (n:=6) (by decide) (by decide) hp;refine⟨((v:Int)==5),p',hp',?_⟩;unfold f16L2;rw [if_pos (decide_eq_true (by simp only;omega)),show f25 6 l (p:Int)=some ((v:Int),(p':Int)) from e,A0,A3 (limB (by rw [List.length_append];simp only [List.length_singleton];omega)),wN (by omega)]
      · unfold f16L2;rw [if_neg (by rw [decide_eq_true_eq];simp only;omega)]
      · obtain⟨z1,r,er,hr⟩:=hz;rw [er];refine Tot.bindT (bools (n:=S) (by omega) hr (fun i p bs hi hp hb => ?_) (fun p bs => ?_)) fun w hw=>Tot.some ⟨⟨?_,?_,z1,?_,?_⟩,?_⟩
        · obtain⟨v,p',e,_,hp'⟩:=H8 hl (n:=9) (by decide) (by decide) hp;refine⟨((v:Int)==8),p',hp',?_⟩;unfold f16L3;rw [eS];simp only;rw [if_pos (decide_eq_true (by omega)),show f25 9 l (p:Int)=some ((v:Int),(p':Int)) from e,A0,A3 (limB (by rw [List.length_append];simp only [List.length_singleton];omega)),wN (by omega)]
        · unfold f16L3;rw [eS];simp only;rw [if_neg (by rw [decide_eq_true_eq];omega)]
        · show 1≤minI _ 8∧minI _ 8≤8;rw [eS];omega
        · show y.2.length≤24;omega
        · show(w.2.length:Int)=minI _ 8;rw [eS,hw.1]
        · show ∀ x∈y.2,LV (minI _ 8) x;rw [eS];exact g2
        · show 4≤minI _ 8;rw [eS];omega
end Go.Top
namespace Go.Top
open Go Go.Vc
def hd6:List Int:=[0,1,8,0,6,4]
theorem B1y (m:Int):f15 hd6 m pw deBr=some true:=by kernel_rfl
end Go.Top
namespace Go.Top
open Go Go.Vc
theorem B4a (x:Int) {n:Nat} (hn:0<n) (hn2:n≤1000000):∃ v:Nat,f9 x n=some (v:Int)∧v<n:=by
  unfold f9;rw [A3 (show((n:Int) != 0)=true by simp;omega)];have hp:(0:Int)<n:=by omega
  have hlt2:=Int.tmod_lt_of_pos x hp
  by_cases hneg:Int.tmod x n<0
  · rw [if_pos (decide_eq_true hneg)];have h3:-(n:Int)<Int.tmod x n:=Int.lt_tmod_of_pos x hp;rw [C6 (by omega) (by omega)];exact⟨(Int.tmod x n+n).toNat,by rw [Int.toNat_of_nonneg (by omega)],by omega⟩
  · rw [if_neg (by rw [decide_eq_true_eq];exact hneg)];exact⟨(Int.tmod x n).toNat,by rw [Int.toNat_of_nonneg (by omega)],by omega⟩
-- a rule found again
theorem A7w {l:List Addr} (h:l.length≤100):f108 l=some l:=by
  unfold f108
  by_cases h0:0<l.length
  · rw [if_pos (decide_eq_true (by omega)),A3 (lenLIM (by simp;omega)),List.nil_append]
  · have:l=[]:=List.eq_nil_of_length_eq_zero (by omega);subst this;rfl
def ruleT (p:Port) (c:Int):Rule:=(p.1,c,p.2.1,p.2.2.2.1,oneT p.2.2.2.2.1,oneT p.2.2.2.2.2,2,3)
theorem B5s {p:Port} (hm:1≤(pmacs p).length∧(pmacs p).length≤2) (c:Int):f62 (ruleT p c)=some (ruleT p c):=by
  have h1:f107 (ruleT p c).2.2.2.1=some (ruleT p c).2.2.2.1:=A7s (ms:=pmacs p) hm.1 (by omega);have h2:f108 (ruleT p c).2.2.2.2.1=some (ruleT p c).2.2.2.2.1:=A7w (by have:=N3 p.2.2.2.2.1;show(oneT p.2.2.2.2.1).length≤100;omega);have h3:f108 (ruleT p c).2.2.2.2.2.1=some (ruleT p c).2.2.2.2.2.1:=A7w (by have:=N3 p.2.2.2.2.2;show(oneT p.2.2.2.2.2).length≤100;omega);simp only [f62,h1,h2,h3,A0]
theorem Row.id_ne {l:List Port} (h:Row l) {i j:Nat} {p q:Port} (hp:l[i]? = some p) (hq:l[j]? = some q) (hij:i≠j):p.1≠q.1:=by
  obtain⟨o,ho,e1⟩:=A1g (h.2 i p hp);obtain⟨o',ho',e2⟩:=A1g (h.2 j q hq);rw [e1,e2];omega
theorem B1z {l:List Port} {r:List Rule} (h:Row l) (hr:RulesOf l r) {i:Nat} {p:Port} (hp:l[i]? = some p):∃ c,r[i]? = some (ruleT p c)∧f28 r p.1=some (true,ruleT p c):=by
  have hl:=h.1;have hrl:=hr.len;obtain⟨c,hc⟩:=hr.get i p hp;have hc:r[i]? = some (ruleT p c):=hc;have hi:=N6 hp;refine⟨c,hc,?_⟩;have loop:loopF (f28L0 r p.1) 0=some (.inr (ruleT p c)):=A9 (tb:=f28L0 r p.1) (fun k=>(k:Int)) i (by omega) (fun k hk=>by
    have hkl:=List.getElem?_eq_getElem (show k<l.length by omega);generalize l[k]=q at hkl;obtain⟨c',hc'⟩:=hr.get k q hkl;have hne:(q.1==p.1)=false:=beq_eq_false_iff_ne.2 (h.id_ne hkl hp (by omega));simp only [f28L0,B0 hc',if_true,A1 hc',A0,hne,Bool.false_eq_true,if_false,B3 hc' (by omega)]) (by
    have he:((ruleT p c).1==p.1)=true:=beq_self_eq_true _;simp only [f28L0,B0 hc,if_true,A1 hc,A0,he,B5s (h.pmacs hp) c])
  simp only [f28,loop,A0,caseT]
-- stations and addresses of others
theorem B6o {ms:List MAC} {x:MAC} (hl:ms.length≤100) (h:x∉ms):f84 ms x=some false:=by
  have:loopF (f144L0 ms x) 0=some (Sum.inl ():Unit⊕Int):=D5 (l:=ms) (x:=Sum.inl ()) (by omega) (fun i a ha=>by
    have hne:Ty.eqT cMAC x a=false:=by
      cases hb:Ty.eqT cMAC x a with
      | false=>rfl
      | true=>exact absurd ((eqMac x a).1 hb ▸ List.mem_of_getElem? ha) h
    simp only [f144L0,B0 ha,if_true,A1 ha,A0,hne,Bool.false_eq_true,if_false,B3 ha (by omega)]) (by
    simp only [f144L0,C1,Bool.false_eq_true,if_false])
  simp only [f84,f144,this,A0,caseT];rfl
theorem B4b {ms:List MAC} {x:MAC} (h:ms.head? = some x):f84 ms x=some true:=by
  match ms,h with
  | y :: r,h =>
    simp at h;subst h;have he:Ty.eqT cMAC y y=true:=(eqMac y y).2 rfl;have hd:decide ((0:Int)<(((y :: r).length:Nat):Int))=true:=decide_eq_true (by rw [List.length_cons];omega);have:loopF (f144L0 (y :: r) y) 0=some (Sum.inr 0:Unit⊕Int):=E8 (n:=1) (by decide) (by
      simp only [iter,f144L0,hd,if_true,show idx (y :: r) 0=some y from rfl,A0,he])
    simp only [f84,f144,this,A0,caseT];rfl
theorem X7 {n:Nat} {p:Port} (h:IsPort n p):(pmacs p).head? = some (macT (100+n))∧idx p.2.2.2.1 0=some (macT (100+n)):=by
  have e:pmacs p=p.2.2.2.1:=rfl;rcases G1 h with h1 | h1
  · rw [← e,h1];exact⟨rfl,rfl⟩
  · rw [← e,h1];exact⟨rfl,rfl⟩
theorem A9s {n k:Nat} {p:Port} (h:IsPort n p) (hk:k≠n) (hn:n≤14) (hk2:k≤14):macT (100+k)∉pmacs p:=fun hm=>by
  rcases G1 h with h1 | h1<;>rw [h1] at hm<;>simp at hm
  · have:=R3 hm;omega
  · rcases hm with hm | hm
    · have:=R3 hm;omega
    · have:=R3 hm;omega
theorem B4c {n:Nat} {p:Port} (h:IsPort n p):oneT p.2.2.2.2.1=[fourT n]∨oneT p.2.2.2.2.1=[]:=by
  have e4:oneT (fourT n)=[fourT n]:=by unfold oneT;rw [H2 K1];rfl
  have e0:oneT zeroA=[]:=by unfold oneT;rw [(eqAddr _ _).2 rfl];rfl
  rcases K7 h with ⟨h1,_⟩ | ⟨h1,_⟩ | ⟨h1,_⟩<;>rw [h1]
  · exact .inl e4
  · exact .inr e0
  · exact .inl e4
end Go.Top
