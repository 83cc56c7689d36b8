/- Part of the proof that 'TopImpersonates' holds of every input: no condition. -/
import Derived.Test.YtalojkjpjdcibaaGreatDoorXAM
namespace Go.Top
open Go Go.Vc
theorem f133_t {a b c:Int} (h1:b≤a) (h2:a≤c):f133 a b c=some true:=by
  unfold f133
  rw [if_pos (decide_eq_true h1),decide_eq_true h2]
theorem f77_ok {d:Database} (h1:d.2.2.1.length≤1000) (h2:d.2.2.2.length≤1000):f77 d=some (owners d):=by
  unfold f77
  rw [chk_true (lenLIM (by omega)),chk_true (lenLIM (by simp;omega))];rfl
theorem Made.len {d:Database} (h:Made d):d.2.2.1.length≤1000∧d.2.2.2.length≤1000:=by
  have h1:=h.ls
  have h2:=h.lm
  omega
theorem f73_ok {d:Database} (h:Made d):f73 d=some false:=by
  have hf:=h.few
  have hs:=h.ls
  have hm:=h.lm
  have loop:loopF (f73L0 (owners d)) 0=some (Sum.inl ():Unit⊕Unit):=loopF_list (l:=owners d) (x:=Sum.inl ()) (by omega) (fun i a ha=>by
    have ho:=h.own a (List.mem_of_getElem? ha)
    have hl:1≤a.2.2.2.2.2.length∧a.2.2.2.2.2.length≤2:=ho.few
    have hin:loopF (f73L1 a) 0=some (Sum.inl ():Unit⊕Unit):=loopF_list (l:=a.2.2.2.2.2) (x:=Sum.inl ()) (by omega) (fun j p hp=>by
      obtain⟨n,_,_,hn⟩:=ho.pts p (List.mem_of_getElem? hp)
      have hmm:f133 (p.2.2.2.1.length:Int) 1 2=some true:=by
        have:pmacs p=p.2.2.2.1:=rfl
        rw [← this]
        rcases pmacs_of hn with e | e<;>rw [e]<;>rfl
      simp only [f73L1,lt_len hp,if_true,idx_nat hp,bind_some',hmm,Bool.not_true,Bool.false_eq_true,if_false,le_len hp (by omega)]) (by
      simp only [f73L1,at_len,Bool.false_eq_true,if_false])
    simp only [f73L0,lt_len ha,if_true,idx_nat ha,bind_some',f133_t (show(1:Int)≤(a.2.2.2.2.2.length:Int) by omega) (show(a.2.2.2.2.2.length:Int)≤4 by omega),Bool.not_true,Bool.false_eq_true,if_false,hin,caseT,le_len ha (by omega)]) (by
    simp only [f73L0,at_len,Bool.false_eq_true,if_false])
  have a1:decide (4<(d.2.2.1.length:Int))=false:=decide_eq_false (by omega)
  have a2:decide (32<(d.2.2.2.length:Int))=false:=decide_eq_false (by omega)
  simp only [f73,a1,a2,Bool.false_eq_true,if_false,f77_ok h.len.1 h.len.2,bind_some',loop,caseT]
theorem f135_ok {s:List UInt8} (h:s∈nameList++[[65,83,45,65],[65,83,45,66]]):f135 s=some true:=by
  have:(nameList++[[65,83,45,65],[65,83,45,66]]).all (fun s=>f135 s==some true)=true:=by kernel_rfl
  exact eq_of_beq (List.all_eq_true.1 this s h)
theorem f136_ok {n:Nat} {p:Port} (hp:IsPort n p) (h1:1≤n) (h2:n≤14):f136 p=some false:=eq_of_beq (portChk_ok f136_tab hp h1 h2)
theorem r4_ok:f134 lan4=some true:=by kernel_rfl
theorem r6_ok:f134 lan6=some true:=by kernel_rfl
theorem f74_ok {d:Database} (h:Made d):f74 d=some false:=by
  have hf:=h.few
  have loop:loopF (f74L0 (owners d)) 0=some (Sum.inl ():Unit⊕Unit):=loopF_list (l:=owners d) (x:=Sum.inl ()) (by omega) (fun i a ha=>by
    have ho:=h.own a (List.mem_of_getElem? ha)
    have hl:1≤a.2.2.2.2.2.length∧a.2.2.2.2.2.length≤2:=ho.few
    obtain⟨x,hx,e4⟩:=ho.m4
    obtain⟨y,hy,e6⟩:=ho.m6
    have a1:=f133_t ho.asn.1 (show a.1≤4294967295 from Int.le_trans ho.asn.2 (by decide))
    have a2:=f135_ok (List.mem_append_left _ ho.name)
    have a3:f133 a.2.2.2.1 0 512=some true:=f133_t (by rw [e4];omega) (by rw [e4];omega)
    have a4:f133 a.2.2.2.2.1 0 512=some true:=f133_t (by rw [e6];omega) (by rw [e6];omega)
    have a5:loopF (f74L1 a) 0=some (Sum.inl ():Unit⊕Unit):=loopF_list (l:=a.2.2.2.2.2) (x:=Sum.inl ()) (by omega) (fun j p hp=>by
      obtain⟨n,n1,n2,hn⟩:=ho.pts p (List.mem_of_getElem? hp)
      simp only [f74L1,lt_len hp,if_true,idx_nat hp,bind_some',f136_ok hn n1 n2,Bool.false_eq_true,if_false,le_len hp (by omega)]) (by
      simp only [f74L1,at_len,Bool.false_eq_true,if_false])
    have a6:a.2.2.1=[]∨(a.2.2.1==([]:List UInt8))=false∧f135 a.2.2.1=some true:=by
      have hq:=ho.set
      simp only [sets,List.mem_cons,List.not_mem_nil,or_false] at hq
      rcases hq with e | e | e
      · exact .inl e
      · exact .inr (by rw [e];exact⟨rfl,f135_ok (by decide)⟩)
      · exact .inr (by rw [e];exact⟨rfl,f135_ok (by decide)⟩)
    have a7:(a.2.2.1==([45]:List UInt8))=false:=by
      have hq:=ho.set
      simp only [sets,List.mem_cons,List.not_mem_nil,or_false] at hq
      rcases hq with e | e | e<;>rw [e]<;>rfl
    rcases a6 with a6 | ⟨a6,a8⟩
    · have a6:(a.2.2.1==([]:List UInt8))=true:=by rw [a6];rfl
      simp only [f74L0,lt_len ha,if_true,idx_nat ha,bind_some',jn_eq,a1,a2,a3,a4,a5,a6,a7,Bool.not_true,Bool.not_false,Bool.false_eq_true,if_false,caseT,le_len ha (by omega)]
    · simp only [f74L0,lt_len ha,if_true,idx_nat ha,bind_some',jn_eq,a1,a2,a3,a4,a5,a6,a7,a8,Bool.not_true,Bool.not_false,Bool.false_eq_true,if_false,caseT,le_len ha (by omega)]) (by
    simp only [f74L0,at_len,Bool.false_eq_true,if_false])
  have e4:d.1=lan4:=h.lan4
  have e6:d.2.1=lan6:=h.lan6
  have w4:f133 lan4.2 8 30=some true:=rfl
  have w6:f133 lan6.2 32 64=some true:=rfl
  have b4:lan4.1.1=false:=rfl
  have b6:lan6.1.1=true:=rfl
  simp only [f74,e4,e6,r4_ok,r6_ok,w4,w6,b4,b6,bind_some',Bool.not_true,Bool.not_false,Bool.false_eq_true,if_false,f77_ok h.len.1 h.len.2,loop,caseT]
theorem out4 {n:Nat} (h1:1≤n) (h2:n≤14):f138 lan4 (fourT n)=some true:=by
  have:(List.range 15).all (fun n=>n==0 || f138 lan4 (fourT n)==some true)=true:=by kernel_rfl
  have:=allRange this (show n<15 by omega)
  simp only [Bool.or_eq_true,beq_iff_eq] at this
  rcases this with h | h
  · omega
  · exact h
theorem out6 {n:Nat} (h1:1≤n) (h2:n≤14):f138 lan6 (sixT n)=some true:=by
  have:(List.range 15).all (fun n=>n==0 || f138 lan6 (sixT n)==some true)=true:=by kernel_rfl
  have:=allRange this (show n<15 by omega)
  simp only [Bool.or_eq_true,beq_iff_eq] at this
  rcases this with h | h
  · omega
  · exact h
theorem rlast4:f139 lan4=some (false,0,3221226239):=by kernel_rfl
theorem f75_ok {d:Database} (h:Made d):f75 d=some false:=by
  have hf:=h.few
  have e4:d.1=lan4:=h.lan4
  have e6:d.2.1=lan6:=h.lan6
  have loop:loopF (f75L0 d (owners d)) 0=some (Sum.inl ():Unit⊕Unit):=loopF_list (l:=owners d) (x:=Sum.inl ()) (by omega) (fun i a ha=>by
    have ho:=h.own a (List.mem_of_getElem? ha)
    have hl:1≤a.2.2.2.2.2.length∧a.2.2.2.2.2.length≤2:=ho.few
    have hin:loopF (f75L1 d a) 0=some (Sum.inl ():Unit⊕Unit):=loopF_list (l:=a.2.2.2.2.2) (x:=Sum.inl ()) (by omega) (fun j p hp=>by
      obtain⟨n,n1,n2,hn⟩:=ho.pts p (List.mem_of_getElem? hp)
      obtain⟨c1,c2,c3⟩:=inside4 n1 n2
      obtain⟨c4,c5⟩:=inside6 n1 n2
      have n4:f137 (fourT n)=some false:=by show some (Ty.eqT cAddr (fourT n) zeroA)=_;rw [eqAddr_f four_ne]
      have n6:f137 (sixT n)=some false:=by show some (Ty.eqT cAddr (sixT n) zeroA)=_;rw [eqAddr_f six_ne]
      have n0:f137 zeroA=some true:=rfl
      rcases addrs_of hn with ⟨h1,h2⟩ | ⟨h1,h2⟩ | ⟨h1,h2⟩ <;>
      simp only [f75L1,lt_len hp,if_true,idx_nat hp,bind_some',jn_eq,h1,h2,e4,e6,n4,n6,n0,out4 n1 n2,out6 n1 n2,c2,c3,c5,rlast4,Bool.not_true,Bool.not_false,Bool.false_eq_true,if_false,le_len hp (by omega)]) (by
      simp only [f75L1,at_len,Bool.false_eq_true,if_false])
    simp only [f75L0,lt_len ha,if_true,idx_nat ha,bind_some',hin,caseT,le_len ha (by omega)]) (by
    simp only [f75L0,at_len,Bool.false_eq_true,if_false])
  simp only [f75,f77_ok h.len.1 h.len.2,bind_some',loop,caseT]
-- nothing twice
theorem f76_0 {d:Database} (h:Made d):loopF (f76L0 d) (0,[])=some (Sum.inl (seen (if d.2.2.1.length=0 then [] else [65000]))):=by
  have hs:=h.ls
  refine loopF_range (tb:=f76L0 d) (fun i=>((i:Int),seen (if i=0 then ([]:List Int) else [65000]))) d.2.2.1.length (by omega) (fun i hi => ?_) ?_
  · have ha:=List.getElem?_eq_getElem hi
    have hasn:=h.srv_asn ha
    have h0:0<d.2.2.1.length:=by omega
    have hb:=List.getElem?_eq_getElem h0
    have hasn0:=h.srv_asn hb
    have hb':idx d.2.2.1 0=some d.2.2.1[0]:=idx_nat (k:=0) hb
    have e2:mput (Ty.eqT (.int .i64)) (seen (if i=0 then ([]:List Int) else [65000])) 65000 true=seen [65000]:=by
      cases i with
      | zero=>rfl
      | succ i=>exact mput_in eqInt (by simp)
    simp only [f76L0,lt_len ha,if_true,idx_nat ha,bind_some',hb',hasn,hasn0,show((65000:Int) != 65000)=false from rfl,Bool.false_eq_true,if_false,e2,Nat.add_one_ne_zero,le_len ha (by omega)]
  · simp only [f76L0,at_len,Bool.false_eq_true,if_false]
theorem f76_1 {d:Database} (h:Made d):loopF (f76L1 d) (0,seen (if d.2.2.1.length=0 then [] else [65000]))=some (Sum.inl ()):=by
  have hm:=h.lm
  have hn:=h.asns
  generalize (if d.2.2.1.length=0 then ([]:List Int) else [65000])=B at hn ⊢
  have:=loopF_range (tb:=f76L1 d) (x:=Sum.inl ()) (fun i=>((i:Int),seen (B++(d.2.2.2.take i).map fun m=>m.1))) d.2.2.2.length (by omega) (fun i hi=>by
    have ha:=List.getElem?_eq_getElem hi
    have hf:=fresh_at hn ha
    simp only [f76L1,lt_len ha,if_true,idx_nat ha,bind_some',mget_seen eqInt hf,Bool.false_eq_true,if_false,mput_seen eqInt hf,le_len ha (by omega),take_map ha,← List.append_assoc]) (by
    simp only [f76L1,at_len,Bool.false_eq_true,if_false])
  simpa using this
theorem f76_4 {p:Port} {B:List MAC} (hn:(B++pmacs p).Nodup) (hl:(pmacs p).length≤100):loopF (f76L4 p) (0,seen B)=some (Sum.inl (seen (B++pmacs p))):=by
  have hn':(B++(pmacs p).map fun x=>x).Nodup:=by simpa using hn
  have:=loopF_range (tb:=f76L4 p) (x:=Sum.inl (seen (B++pmacs p))) (fun i=>((i:Int),seen (B++((pmacs p).take i).map fun x=>x))) (pmacs p).length (by omega) (fun i hi=>by
    have ha:=List.getElem?_eq_getElem hi
    have hf:=fresh_at (κ:=fun x=>x) hn' ha
    have ha':p.2.2.2.1[i]? = some (pmacs p)[i]:=ha
    simp only [f76L4,lt_len ha',if_true,idx_nat ha',bind_some',mget_seen eqMac hf,Bool.false_eq_true,if_false,mput_seen eqMac hf,le_len ha (by omega),take_map (κ:=fun x=>x) ha,← List.append_assoc]) (by
    have:decide (((pmacs p).length:Int)<(p.2.2.2.1.length:Int))=false:=at_len (pmacs p)
    simp only [f76L4,this,Bool.false_eq_true,if_false,List.take_length,List.map_id'])
  simpa using this
theorem f137_eq (a:Addr):f137 a=some (Ty.eqT cAddr a zeroA):=rfl
theorem f76_3 {m:Member} (hp:∀ p∈mports m,∃ n,IsPort n p) (hfew:(mports m).length≤2) {Bi:List Int} {Bm:List MAC} {Ba:List Addr} (hi:(Bi++(mports m).map fun p=>p.1).Nodup) (hm:(Bm++((mports m).map pmacs).flatten).Nodup) (ha:(Ba++((mports m).map paddrs).flatten).Nodup) (hz:zeroA∉Ba) :
    loopF (f76L3 m) (0,seen Bi,seen Bm,seen Ba)=some (Sum.inl (seen (Bi++(mports m).map fun p=>p.1),seen (Bm++((mports m).map pmacs).flatten),seen (Ba++((mports m).map paddrs).flatten))):=by
  have flat:∀ {β:Type} (κ:Port→List β) (B:List β),(B++((mports m).map κ).flatten).Nodup→∀ (i:Nat) p,(mports m)[i]? = some p→(B++(((mports m).take i).map κ).flatten++κ p).Nodup:=fun κ B hB i p hp=>by
    have hl:mports m=(mports m).take i++[p]++(mports m).drop (i+1):=by
      obtain⟨hi,he⟩:=List.getElem?_eq_some_iff.1 hp
      rw [List.append_assoc,← he,List.singleton_append,← List.drop_eq_getElem_cons hi,List.take_append_drop]
    rw [hl,List.map_append,List.flatten_append,← List.append_assoc] at hB
    have:=(List.nodup_append.1 hB).1
    simpa [List.append_assoc] using this
  have:=loopF_range (tb:=f76L3 m) (x:=Sum.inl (seen (Bi++(mports m).map fun p=>p.1),seen (Bm++((mports m).map pmacs).flatten),seen (Ba++((mports m).map paddrs).flatten)))
    (fun i=>((i:Int),seen (Bi++((mports m).take i).map fun p=>p.1),seen (Bm++(((mports m).take i).map pmacs).flatten),seen (Ba++(((mports m).take i).map paddrs).flatten))) (mports m).length (by omega) (fun i hlt=>by
    have hat:=List.getElem?_eq_getElem hlt
    generalize (mports m)[i]=p at hat
    have hat':m.2.2.2.2.2[i]? = some p:=hat
    obtain⟨n,hn⟩:=hp p (List.mem_of_getElem? hat)
    have f1:=fresh_at hi hat
    have f2:=flat pmacs Bm hm i p hat
    have f3:=flat paddrs Ba ha i p hat
    have hml:(pmacs p).length≤100:=by rcases pmacs_of hn with e | e<;>rw [e]<;>simp
    have z0:zeroA∉Ba++(((mports m).take i).map paddrs).flatten:=fun hmm=>by
      rcases List.mem_append.1 hmm with hmm | hmm
      · exact hz hmm
      · obtain⟨l,hl,hzl⟩:=List.mem_flatten.1 hmm
        obtain⟨q,hq,rfl⟩:=List.mem_map.1 hl
        obtain⟨n',hn'⟩:=hp q (List.mem_of_mem_take hq)
        rcases paddrs_of hn' with e | e | e<;>rw [e] at hzl<;>simp at hzl
        · exact four_ne hzl.symm
        · exact six_ne hzl.symm
        · rcases hzl with h | h
          · exact four_ne h.symm
          · exact six_ne h.symm
    have e4:Ty.eqT cAddr (fourT n) zeroA=false:=eqAddr_f four_ne
    have e6:Ty.eqT cAddr (sixT n) zeroA=false:=eqAddr_f six_ne
    have e0:Ty.eqT cAddr zeroA zeroA=true:=(eqAddr _ _).2 rfl
    generalize hA:Ba++(((mports m).take i).map paddrs).flatten=A at f3 z0
    have hA2:Ba++(((mports m).take (i+1)).map paddrs).flatten=A++paddrs p:=by rw [take_flat hat,← List.append_assoc,hA]
    have hM2:Bm++(((mports m).take (i+1)).map pmacs).flatten=Bm++(((mports m).take i).map pmacs).flatten++pmacs p:=by rw [take_flat hat,← List.append_assoc]
    have hI2:Bi++((mports m).take (i+1)).map (fun p=>p.1)=Bi++((mports m).take i).map (fun p=>p.1)++[p.1]:=by rw [take_map hat,← List.append_assoc]
    have nd:∀ x,x∈paddrs p→x∉A:=fun x hx hxA=>(List.nodup_append.1 f3).2.2 x hxA x hx rfl
    have m4:=f76_4 f2 hml
    have hlt':=lt_len hat'
    have hix:=idx_nat hat'
    have hs:=le_len hat (by omega)
    have pa:paddrs p=[fourT n]∧p.2.2.2.2.1=fourT n∧p.2.2.2.2.2=zeroA∨paddrs p=[sixT n]∧p.2.2.2.2.1=zeroA∧p.2.2.2.2.2=sixT n∨paddrs p=[fourT n,sixT n]∧p.2.2.2.2.1=fourT n∧p.2.2.2.2.2=sixT n:=by
      rcases addrs_of hn with ⟨h1,h2⟩ | ⟨h1,h2⟩ | ⟨h1,h2⟩
      · exact .inl ⟨by unfold paddrs;rw [h1,h2];simp [List.filter,e4,e0],h1,h2⟩
      · exact .inr (.inl ⟨by unfold paddrs;rw [h1,h2];simp [List.filter,e6,e0],h1,h2⟩)
      · exact .inr (.inr ⟨by unfold paddrs;rw [h1,h2];simp [List.filter,e4,e6],h1,h2⟩)
    rw [hA2,hM2,hI2]
    rcases pa with ⟨h0,h1,h2⟩ | ⟨h0,h1,h2⟩ | ⟨h0,h1,h2⟩
    · have q4:=nd (fourT n) (by rw [h0];simp)
      simp only [f76L3,hlt',if_true,hix,bind_some',jn_eq,mget_seen eqInt f1,h1,h2,mget_seen eqAddr q4,mget_seen eqAddr z0,Bool.false_eq_true,if_false,f137_eq,e4,e0,Bool.not_true,Bool.not_false,m4,caseT,hs,mput_seen eqInt f1,mput_seen eqAddr q4,h0]
    · have q6:=nd (sixT n) (by rw [h0];simp)
      simp only [f76L3,hlt',if_true,hix,bind_some',jn_eq,mget_seen eqInt f1,h1,h2,mget_seen eqAddr q6,mget_seen eqAddr z0,Bool.false_eq_true,if_false,f137_eq,e6,e0,Bool.not_true,Bool.not_false,m4,caseT,hs,mput_seen eqInt f1,mput_seen eqAddr q6,h0]
    · have q4:=nd (fourT n) (by rw [h0];simp)
      have q6:=nd (sixT n) (by rw [h0];simp)
      have q6':sixT n∉A++[fourT n]:=fun hm=>by
        rcases List.mem_append.1 hm with hm | hm
        · exact q6 hm
        · exact four_six (List.mem_singleton.1 hm).symm
      simp only [f76L3,hlt',if_true,hix,bind_some',jn_eq,mget_seen eqInt f1,h1,h2,mget_seen eqAddr q4,mget_seen eqAddr q6,Bool.false_eq_true,if_false,f137_eq,e4,e6,Bool.not_true,Bool.not_false,m4,caseT,hs,mput_seen eqInt f1,mput_seen eqAddr q4,mput_seen eqAddr q6',h0,List.append_assoc,List.cons_append,List.nil_append]) (by
    have:decide (((mports m).length:Int)<(m.2.2.2.2.2.length:Int))=false:=at_len (mports m)
    simp only [f76L3,this,Bool.false_eq_true,if_false,List.take_length])
  simpa using this
end Go.Top
namespace Go.Top
open Go Go.Vc
theorem allP_split (ms:List Member) (i:Nat):allP ms=allP (ms.take i)++allP (ms.drop i):=by
  have:=List.take_append_drop i ms
  conv=>lhs;rw [← this]
  unfold allP;rw [List.map_append,List.flatten_append]
theorem allP_take {ms:List Member} {i:Nat} {m:Member} (h:ms[i]? = some m):allP (ms.take (i+1))=allP (ms.take i)++mports m:=by
  rw [show ms.take (i+1)=ms.take i++[m] from by rw [List.take_add_one,h];rfl,allP_snoc]
theorem f76_2 {d:Database} (h:Made d):loopF (f76L2 (owners d)) (0,[],[],[],[])=some (Sum.inl ()):=by
  have hf:=h.few
  have hr:=h.row
  have hn:=h.names
  have:=loopF_range (tb:=f76L2 (owners d)) (x:=Sum.inl ())
    (fun i=>((i:Int),seen (((owners d).take i).map fun m=>m.2.1),seen ((allP ((owners d).take i)).map fun p=>p.1),seen ((allP ((owners d).take i)).map pmacs).flatten,seen ((allP ((owners d).take i)).map paddrs).flatten)) (owners d).length (by omega) (fun i hi=>by
    have ha:=List.getElem?_eq_getElem hi
    generalize (owners d)[i]=m at ha
    have hmem:=List.mem_of_getElem? ha
    have ho:=h.own m hmem
    have hnm:=fresh_at (B:=[]) (by simpa using hn) ha
    rw [List.nil_append] at hnm
    have hsp:=allP_split (owners d) (i+1)
    rw [allP_take ha] at hsp
    have k1:=hr.ids
    have k2:=hr.macs
    have k3:=hr.addrs
    rw [hsp] at k1 k2 k3
    rw [List.map_append] at k1 k2 k3
    rw [List.flatten_append] at k2 k3
    have k1:=(List.nodup_append.1 k1).1
    have k2:=(List.nodup_append.1 k2).1
    have k3:=(List.nodup_append.1 k3).1
    rw [List.map_append] at k1 k2 k3
    rw [List.flatten_append] at k2 k3
    have hz:zeroA∉((allP ((owners d).take i)).map paddrs).flatten:=fun hmm=>by
      obtain⟨l,hl,hzl⟩:=List.mem_flatten.1 hmm
      obtain⟨q,hq,rfl⟩:=List.mem_map.1 hl
      have hq2:q∈allP (owners d):=by rw [allP_split (owners d) i];exact List.mem_append_left _ hq
      obtain⟨j,hj⟩:=List.getElem?_of_mem hq2
      have hn':=(h.isPort hj).1
      rcases paddrs_of hn' with e | e | e<;>rw [e] at hzl<;>simp at hzl
      · exact four_ne hzl.symm
      · exact six_ne hzl.symm
      · rcases hzl with h | h
        · exact four_ne h.symm
        · exact six_ne h.symm
    have inner:=f76_3 (m:=m) (fun p hp=>by obtain⟨n,_,_,hn⟩:=ho.pts p hp;exact⟨n,hn⟩) ho.few.2 k1 k2 k3 hz
    simp only [f76L2,lt_len ha,if_true,idx_nat ha,bind_some',mget_seen eqStr hnm,Bool.false_eq_true,if_false,inner,caseT,le_len ha (by omega),mput_seen eqStr hnm,take_map ha,allP_take ha,List.map_append,List.flatten_append]) (by
    simp only [f76L2,at_len,Bool.false_eq_true,if_false])
  exact this
theorem f34_ok {d:Database} (h:Made d):f34 d=some 0:=by
  have h76:f76 d=some false:=by simp only [f76,f76_0 h,bind_some',caseT,f76_1 h,f77_ok h.len.1 h.len.2,f76_2 h]
  simp only [f34,f73_ok h,f74_ok h,f75_ok h,h76,bind_some',Bool.false_eq_true,if_false]
-- the reference's ports: only how many
theorem f78_ok {p:Port} (h:p.2.2.2.1.length≤100):f78 p=some p:=by
  unfold f78;rw [chk_true (lenLIM (by omega))]
theorem f35_2 {n:Int} {acc0:List Port} {m:Member} (hp:∀ p∈mports m,∃ k,IsPort k p) (hfew:(mports m).length≤2) {acc:List Port} (ha:acc.length≤1000) :
    loopF (f35L2 (n,acc0) m) (0,acc)=some (acc++(mports m).filter fun p=>p.1==n):=by
  have:=loopF_range (tb:=f35L2 (n,acc0) m) (x:=acc++(mports m).filter fun p=>p.1==n) (fun i=>((i:Int),acc++((mports m).take i).filter fun p=>p.1==n)) (mports m).length (by omega) (fun i hi=>by
    have hat:=List.getElem?_eq_getElem hi
    generalize (mports m)[i]=p at hat
    have hat':m.2.2.2.2.2[i]? = some p:=hat
    obtain⟨k,hk⟩:=hp p (List.mem_of_getElem? hat)
    have hml:p.2.2.2.1.length≤100:=by
      have:pmacs p=p.2.2.2.1:=rfl
      rw [← this]
      rcases pmacs_of hk with e | e<;>rw [e]<;>simp
    have ht:(mports m).take (i+1)=(mports m).take i++[p]:=by rw [List.take_add_one,hat];rfl
    have hlen:(((mports m).take i).filter fun p=>p.1==n).length≤2:=Nat.le_trans (List.length_filter_le ..) (by rw [List.length_take];omega)
    have hlt':=lt_len hat'
    have hix:=idx_nat hat'
    have hs:=le_len hat (by omega)
    cases he:(p.1==n) with
    | true =>
      have e:acc++((mports m).take (i+1)).filter (fun p=>p.1==n)=acc++((mports m).take i).filter (fun p=>p.1==n)++[p]:=by
        rw [ht,List.filter_append,← List.append_assoc];simp [List.filter,he]
      rw [e]
      simp only [f35L2,hlt',if_true,hix,bind_some',he,f78_ok hml]
      rw [chk_true (lenLIM (by simp only [List.length_append,List.length_cons,List.length_nil];omega)),hs]
    | false =>
      have e:acc++((mports m).take (i+1)).filter (fun p=>p.1==n)=acc++((mports m).take i).filter (fun p=>p.1==n):=by
        rw [ht,List.filter_append];simp [List.filter,he]
      rw [e]
      simp only [f35L2,hlt',if_true,hix,bind_some',he,Bool.false_eq_true,if_false,hs]) (by
    have:decide (((mports m).length:Int)<(m.2.2.2.2.2.length:Int))=false:=at_len (mports m)
    simp only [f35L2,this,Bool.false_eq_true,if_false,List.take_length])
  simpa using this
theorem f35_1 {d:Database} (h:Made d) {n:Int} {acc0 acc:List Port} (ha:acc.length≤500):loopF (f35L1 (n,acc0) (owners d)) (0,acc)=some (acc++(allP (owners d)).filter fun p=>p.1==n):=by
  have hf:=h.few
  have:=loopF_range (tb:=f35L1 (n,acc0) (owners d)) (x:=acc++(allP (owners d)).filter fun p=>p.1==n) (fun i=>((i:Int),acc++(allP ((owners d).take i)).filter fun p=>p.1==n)) (owners d).length (by omega) (fun i hi=>by
    have hat:=List.getElem?_eq_getElem hi
    generalize (owners d)[i]=m at hat
    have ho:=h.own m (List.mem_of_getElem? hat)
    have hlen:((allP ((owners d).take i)).filter fun p=>p.1==n).length≤14:=Nat.le_trans (List.length_filter_le ..) (by
      have:=allP_split (owners d) i
      have h2:=congrArg List.length this
      rw [List.length_append] at h2
      omega)
    have inner:=f35_2 (n:=n) (acc0:=acc0) (m:=m) (fun p hp=>by obtain⟨k,_,_,hn⟩:=ho.pts p hp;exact⟨k,hn⟩) ho.few.2 (acc:=acc++(allP ((owners d).take i)).filter fun p=>p.1==n) (by simp;omega)
    simp only [f35L1,lt_len hat,if_true,idx_nat hat,bind_some',inner,le_len hat (by omega),allP_take hat,List.filter_append,List.append_assoc]) (by
    simp only [f35L1,at_len,Bool.false_eq_true,if_false,List.take_length])
  simpa [allP] using this
theorem count_lt (l:List Port) (n:Int):(l.filter fun p=>decide (p.1<n+1)).length=(l.filter fun p=>decide (p.1<n)).length+(l.filter fun p=>p.1==n).length:=by
  induction l with
  | nil=>rfl
  | cons p l ih =>
    simp only [List.filter_cons]
    by_cases h1:p.1<n
    · have h2:p.1<n+1:=by omega
      have h3:(p.1==n)=false:=beq_eq_false_iff_ne.2 (by omega)
      simp only [decide_eq_true h1,decide_eq_true h2,h3,if_true,Bool.false_eq_true,if_false,List.length_cons,ih];omega
    · by_cases h4:p.1=n
      · have h2:p.1<n+1:=by omega
        have h3:(p.1==n)=true:=beq_iff_eq.2 h4
        simp only [decide_eq_false h1,decide_eq_true h2,h3,if_true,Bool.false_eq_true,if_false,List.length_cons,ih];omega
      · have h2:¬ p.1<n+1:=by omega
        have h3:(p.1==n)=false:=beq_eq_false_iff_ne.2 h4
        simp only [decide_eq_false h1,decide_eq_false h2,h3,Bool.false_eq_true,if_false,ih]
theorem f35_all {d:Database} (h:Made d):∃ l,f35 d=some l∧l.length=(allP (owners d)).length∧∀ x,x∈l↔x∈allP (owners d):=by
  have hf:=h.few
  have ids:∀ p∈allP (owners d),0≤p.1∧p.1<((1000:Nat):Int):=fun p hp=>by
    obtain⟨j,hj⟩:=List.getElem?_of_mem hp
    obtain⟨hj1,hj2⟩:=h.isPort hj
    obtain⟨o,ho,e⟩:=id_of hj1
    rw [e];omega
  obtain⟨x,h1,h2⟩:=loopF_inv (tb:=f35L0 d) (Q:=fun l=>l.length=(allP (owners d)).length∧∀ x,x∈l↔x∈allP (owners d))
    (Inv:=fun k s=>∃ (i:Nat) (acc:List Port),i+k=1000∧acc.length=((allP (owners d)).filter fun p=>decide (p.1<(i:Int))).length∧(∀ x,x∈acc↔x∈allP (owners d)∧x.1<(i:Int))∧s=((i:Int),acc))
    (fun k s ⟨i,acc,g1,g2,g4,g3⟩=>by
      subst g3
      have hle:decide ((i:Int)≤999)=true:=decide_eq_true (by omega)
      have hacc:acc.length≤500:=by rw [g2];exact Nat.le_trans (List.length_filter_le ..) (by omega)
      refine⟨_,?_,i+1,acc++(allP (owners d)).filter (fun p=>p.1==(i:Int)),by omega,?_,fun x => ?_,rfl⟩
      · simp only [f35L0,hle,if_true,f77_ok h.len.1 h.len.2,bind_some',f35_1 h hacc]
        rw [w64_succ (by omega)]
      · rw [List.length_append,g2]
        have:=count_lt (allP (owners d)) (i:Int)
        rw [show(((i+1:Nat):Int))=(i:Int)+1 by omega]
        exact this.symm
      · rw [List.mem_append,g4,List.mem_filter]
        simp only [beq_iff_eq]
        constructor
        · rintro(⟨a,b⟩ | ⟨a,b⟩)
          · exact⟨a,by omega⟩
          · exact⟨a,by omega⟩
        · rintro⟨a,b⟩
          by_cases e:x.1=(i:Int)
          · exact .inr ⟨a,e⟩
          · exact .inl ⟨a,by omega⟩)
    (fun s ⟨i,acc,g1,g2,g4,g3⟩=>by
      subst g3
      have:i=1000:=by omega
      subst this
      refine⟨acc,rfl,?_,fun x=>⟨fun hx=>((g4 x).1 hx).1,fun hx=>(g4 x).2 ⟨hx,(ids x hx).2⟩⟩⟩
      rw [g2]
      congr 1
      exact List.filter_eq_self.2 fun p hp=>decide_eq_true (ids p hp).2)
    (n:=1000) (by omega) (s:=(0,[])) ⟨0,[],rfl,by
      symm
      show _=0
      rw [List.length_eq_zero_iff,List.filter_eq_nil_iff]
      intro p hp
      have:=ids p hp
      simp;omega,fun x=>⟨fun hx=>(nomatch hx),fun⟨hx,e⟩=>by have:=ids x hx;omega⟩,rfl⟩
  exact⟨x,by simp only [f35,h1,bind_some'],h2⟩
theorem f35_ok {d:Database} (h:Made d):∃ l,f35 d=some l∧l.length=(allP (owners d)).length:=by
  obtain⟨l,h1,h2,_⟩:=f35_all h
  exact⟨l,h1,h2⟩
end Go.Top
namespace Go.Top
open Go Go.Vc
theorem loopF_inv2 {S X:Type} {tb:S→Option (X⊕S)} {Inv:Nat→S→Prop} {Q:X→Prop} (step:∀ i s,Inv i s→(∃ x,tb s=some (.inl x)∧Q x)∨∃ s' j,j<i∧tb s=some (.inr s')∧Inv j s')
    {n:Nat} (hn:n≤10000) {s:S} (h0:Inv n s):∃ x,loopF tb s=some x∧Q x:=by
  have key:∀ n,∀ m,m≤n→∀ s,Inv m s→∃ x,iter tb (n+1) s=some x∧Q x:=by
    intro n
    induction n with
    | zero =>
      intro m hm s h
      rcases step m s h with ⟨x,h1,h2⟩ | ⟨s',j,hj,_,_⟩
      · exact⟨x,by rw [iter,h1];rfl,h2⟩
      · omega
    | succ n ih =>
      intro m hm s h
      rcases step m s h with ⟨x,h1,h2⟩ | ⟨s',j,hj,h1,h2⟩
      · exact⟨x,by rw [iter,h1];rfl,h2⟩
      · obtain⟨x,h3,h4⟩:=ih j (by omega) s' h2
        exact⟨x,by rw [iter,h1];exact h3,h4⟩
  obtain⟨x,h1,h2⟩:=key n n (Nat.le_refl _) s h0
  exact⟨x,loopF_of (by omega) h1,h2⟩
theorem f132_tot (a b:Int):∃ c,f132 a b=some c:=by
  have h3:∀ x:Int,f193 x=some false:=fun x=>by simp [f193]
  by_cases h1:a<b
  · exact⟨_,by simp only [f132,h3,bind_some',Bool.false_eq_true,if_false,decide_eq_true h1,if_true];rfl⟩
  · by_cases h2:b<a
    · exact⟨_,by simp only [f132,h3,bind_some',Bool.false_eq_true,if_false,decide_eq_false h1,decide_eq_true h2,if_true];rfl⟩
    · exact⟨_,by simp only [f132,h3,bind_some',Bool.false_eq_true,if_false,decide_eq_false h1,decide_eq_false h2];rfl⟩
theorem f143_tot (a b:Int):∃ c,f143 a b=some c:=by
  have h3:∀ x:Int,f199 x=some false:=fun x=>by simp [f199]
  by_cases h1:a<b
  · exact⟨_,by simp only [f143,h3,bind_some',Bool.false_eq_true,if_false,decide_eq_true h1,if_true];rfl⟩
  · by_cases h2:b<a
    · exact⟨_,by simp only [f143,h3,bind_some',Bool.false_eq_true,if_false,decide_eq_false h1,decide_eq_true h2,if_true];rfl⟩
    · exact⟨_,by simp only [f143,h3,bind_some',Bool.false_eq_true,if_false,decide_eq_false h1,decide_eq_false h2];rfl⟩
theorem f141_tot (l:List Int) (hl:l.length≤1000):∃ c,f141 l=some c:=by
  obtain⟨x,hx,_⟩:=loopF_any (l:=l) (by omega) (tb:=f141L0 l) (Q:=fun _=>True) (fun i a ha=>by
    cases he:(a != 0) with
    | true=>exact .inr ⟨.inr a,by simp only [f141L0,lt_len ha,if_true,idx_nat ha,bind_some',he],trivial⟩
    | false=>exact .inl (by simp only [f141L0,lt_len ha,if_true,idx_nat ha,bind_some',he,Bool.false_eq_true,if_false,le_len ha (by omega)])) ⟨.inl (),by simp only [f141L0,at_len,Bool.false_eq_true,if_false],trivial⟩
  cases x with
  | inl u=>exact⟨0,by simp only [f141,hx,bind_some',caseT]⟩
  | inr v=>exact⟨v,by simp only [f141,hx,bind_some',caseT]⟩
theorem f142_tot (a:Addr):∃ c,f142 a=some c:=by
  unfold f142;split<;>exact⟨_,rfl⟩
theorem f80_tot (x y:Binding):∃ c,f80 x y=some c:=by
  obtain⟨c1,h1⟩:=f142_tot x.1
  obtain⟨c2,h2⟩:=f142_tot y.1
  obtain⟨c3,h3⟩:=f132_tot c1 c2
  obtain⟨c4,h4⟩:=f143_tot x.1.2.1 y.1.2.1
  obtain⟨c5,h5⟩:=f143_tot x.1.2.2 y.1.2.2
  obtain⟨c6,h6⟩:=f141_tot [c3,c4,c5] (by simp)
  exact⟨c6,by simp only [f80,f81,h1,h2,h3,h4,h5,h6,bind_some']⟩
-- swaps
theorem swap_perm {l:List Binding} {i j:Nat} {a b:Binding} (hi:l[i]? = some a) (hj:l[j]? = some b):((l.set i b).set j a).Perm l:=by
  obtain⟨h1,e1⟩:=List.getElem?_eq_some_iff.1 hi
  obtain⟨h2,e2⟩:=List.getElem?_eq_some_iff.1 hj
  have:=List.set_set_perm h1 h2
  rw [e1,e2] at this
  exact this
theorem sub1 {k:Nat} (h:1≤k) (h2:k≤1000000):w64 ((k:Int)-1)=((k-1:Nat):Int):=by rw [w64_id (by omega) (by omega)];omega
theorem f197L1_ok {a:Nat} {l0:List Binding} (hl0:l0.length≤1000) {j:Nat} (hj:j<l0.length) (ha:a≤j):∃ l',loopF (f197L1 (a:Int)) ((j:Int),l0)=some l'∧l'.Perm l0:=by
  refine loopF_inv2 (tb:=f197L1 (a:Int)) (Q:=fun l'=>l'.Perm l0) (Inv:=fun k s=>∃ (j:Nat) (l:List Binding),s=((j:Int),l)∧l.Perm l0∧j<l0.length∧a≤j∧k=j) (fun k s ⟨j,l,g1,g2,g3,g4,g5⟩ => ?_) (n:=j) (by omega) ⟨j,l0,rfl,.refl _,hj,ha,rfl⟩
  subst g1 g5
  have hlen:=g2.length_eq
  by_cases hlt:a<k
  · have hd:decide ((a:Int)<(k:Int))=true:=decide_eq_true (by omega)
    have hx:=List.getElem?_eq_getElem (show k<l.length by omega)
    have hy:=List.getElem?_eq_getElem (show k-1<l.length by omega)
    generalize hxe:l[k]=x at hx
    generalize hye:l[k-1]=y at hy
    obtain⟨c,hc⟩:=f80_tot x y
    have hw:=sub1 (k:=k) (by omega) (by omega)
    by_cases hc0:c<0
    · have hz:(l.set k y)[k-1]? = some y:=by rw [List.getElem?_set_ne (by omega)];exact hy
      have hl1:decide ((l.set k y).length=l.length)=true:=by simp
      have hl2:decide (((l.set k y).set (k-1) x).length=l.length)=true:=by simp
      refine .inr ⟨(((k-1:Nat):Int),(l.set k y).set (k-1) x),k-1,by omega,?_,k-1,_,rfl,(swap_perm hx hy).trans g2,by omega,by omega,rfl⟩
      simp only [f197L1,hd,if_true,idx_nat hx,bind_some',hw,idx_nat hy,hc,decide_eq_true hc0,Int.toNat_natCast,chk_true hl1,idx_nat hz,chk_true hl2]
    · refine .inl ⟨l,?_,g2⟩
      simp only [f197L1,hd,if_true,idx_nat hx,bind_some',hw,idx_nat hy,hc,decide_eq_false hc0,Bool.false_eq_true,if_false]
  · have hd:decide ((a:Int)<(k:Int))=false:=decide_eq_false (by omega)
    exact .inl ⟨l,by simp only [f197L1,hd,Bool.false_eq_true,if_false],g2⟩
theorem f197_ok {a b:Nat} {l0:List Binding} (hl0:l0.length≤1000) (ha:a≤1000) (hb:b≤l0.length):∃ l',f197 (a:Int) (b:Int) l0=some l'∧l'.Perm l0:=by
  by_cases hab:a+1≤b
  · obtain⟨l',h1,h2⟩:=loopF_inv2 (tb:=f197L0 (a:Int) (b:Int)) (Q:=fun l'=>l'.Perm l0) (Inv:=fun k s=>∃ (i:Nat) (l:List Binding),s=((i:Int),l)∧l.Perm l0∧a≤i∧i≤b∧k=b-i) (fun k s ⟨i,l,g1,g2,g3,g4,g5⟩=>by
      subst g1 g5
      have hlen:=g2.length_eq
      by_cases hlt:i<b
      · have hd:decide ((i:Int)<(b:Int))=true:=decide_eq_true (by omega)
        obtain⟨l',q1,q2⟩:=f197L1_ok (a:=a) (l0:=l) (by omega) (j:=i) (by omega) g3
        refine .inr ⟨(((i+1:Nat):Int),l'),b-(i+1),by omega,?_,i+1,l',rfl,q2.trans g2,by omega,by omega,rfl⟩
        simp only [f197L0,hd,if_true,q1,bind_some',w64_succ (show i≤4611686018427387904 by omega)]
      · have hd:decide ((i:Int)<(b:Int))=false:=decide_eq_false (by omega)
        exact .inl ⟨l,by simp only [f197L0,hd,Bool.false_eq_true,if_false],g2⟩) (n:=b-(a+1)) (by omega) (s:=(((a+1:Nat):Int),l0)) ⟨a+1,l0,rfl,.refl _,by omega,by omega,rfl⟩
    exact⟨l',by simp only [f197,w64_succ (show a≤4611686018427387904 by omega),h1,bind_some'],h2⟩
  · have hd:decide (((a+1:Nat):Int)<(b:Int))=false:=decide_eq_false (by omega)
    have:loopF (f197L0 (a:Int) (b:Int)) (((a+1:Nat):Int),l0)=some l0:=loopF_of (n:=1) (by decide) (by simp only [iter,f197L0,hd,Bool.false_eq_true,if_false,bind_some'])
    exact⟨l0,by simp only [f197,w64_succ (show a≤4611686018427387904 by omega),this,bind_some'],.refl _⟩
theorem f261_ok {a b n:Nat} {l0:List Binding} (hl0:l0.length≤1000) (ha:a+n≤l0.length) (hb:b+n≤l0.length):∃ l',f261 (a:Int) (b:Int) (n:Int) l0=some l'∧l'.Perm l0:=by
  obtain⟨l',h1,h2⟩:=loopF_inv2 (tb:=f261L0 (a:Int) (b:Int) (n:Int)) (Q:=fun l'=>l'.Perm l0) (Inv:=fun k s=>∃ (i:Nat) (l:List Binding),s=((i:Int),l)∧l.Perm l0∧i≤n∧k=n-i) (fun k s ⟨i,l,g1,g2,g3,g5⟩=>by
    subst g1 g5
    have hlen:=g2.length_eq
    by_cases hlt:i<n
    · have hd:decide ((i:Int)<(n:Int))=true:=decide_eq_true (by omega)
      have wa:w64 ((a:Int)+(i:Int))=((a+i:Nat):Int):=by rw [w64_id (by omega) (by omega)];omega
      have wb:w64 ((b:Int)+(i:Int))=((b+i:Nat):Int):=by rw [w64_id (by omega) (by omega)];omega
      have hx:=List.getElem?_eq_getElem (show a+i<l.length by omega)
      have hy:=List.getElem?_eq_getElem (show b+i<l.length by omega)
      generalize l[a+i]=x at hx
      generalize l[b+i]=y at hy
      have hz:∃ z,(l.set (a+i) y)[b+i]? = some z:=⟨_,List.getElem?_eq_getElem (by rw [List.length_set];omega)⟩
      obtain⟨z,hz⟩:=hz
      have hl1:decide ((l.set (a+i) y).length=l.length)=true:=by simp
      have hl2:decide (((l.set (a+i) y).set (b+i) x).length=l.length)=true:=by simp
      refine .inr ⟨(((i+1:Nat):Int),(l.set (a+i) y).set (b+i) x),n-(i+1),by omega,?_,i+1,_,rfl,(swap_perm hx hy).trans g2,by omega,rfl⟩
      simp only [f261L0,hd,if_true,wa,wb,idx_nat hx,idx_nat hy,bind_some',Int.toNat_natCast,chk_true hl1,idx_nat hz,chk_true hl2,w64_succ (show i≤4611686018427387904 by omega)]
    · have hd:decide ((i:Int)<(n:Int))=false:=decide_eq_false (by omega)
      exact .inl ⟨l,by simp only [f261L0,hd,Bool.false_eq_true,if_false],g2⟩) (n:=n) (by omega) (s:=(0,l0)) ⟨0,l0,rfl,.refl _,by omega,rfl⟩
  exact⟨l',by simp only [f261,h1,bind_some'],h2⟩
theorem f235_ok {a m b:Nat} {l0:List Binding} (hl0:l0.length≤1000) (h1:a<m) (h2:m<b) (hb:b≤l0.length):∃ l',f235 (a:Int) (m:Int) (b:Int) l0=some l'∧l'.Perm l0:=by
  have wd:∀ x y:Nat,y≤x→x≤100000→w64 ((x:Int)-(y:Int))=((x-y:Nat):Int):=fun x y h1 h2=>by rw [w64_id (by omega) (by omega)];omega
  obtain⟨r,e1,i,l,rfl,g2,g3,g4⟩:=loopF_inv2 (tb:=f235L0 (m:Int)) (Q:=fun r=>∃ (i:Nat) (l:List Binding),r=((i:Int),l)∧l.Perm l0∧i≤m∧m+i≤l0.length) (Inv:=fun k s=>∃ (i j:Nat) (l:List Binding),s=((i:Int),(j:Int),l)∧l.Perm l0∧1≤i∧1≤j∧i≤m∧m+j≤l0.length∧k=i+j) (fun k s ⟨i,j,l,g1,g2,g3,g4,g5,g6,g7⟩=>by
    subst g1 g7
    have hlen:=g2.length_eq
    have wmi:=wd m i g5 (by omega)
    by_cases he:i=j
    · subst he
      have hd:(((i:Int) != (i:Int)):Bool)=false:=by simp
      exact .inl ⟨((i:Int),l),by simp only [f235L0,hd,Bool.false_eq_true,if_false],i,l,rfl,g2,g5,g6⟩
    · have hd:(((i:Int) != (j:Int)):Bool)=true:=bne_iff_ne.2 (by omega)
      by_cases hlt:j<i
      · have hd2:decide ((j:Int)<(i:Int))=true:=decide_eq_true (by omega)
        obtain⟨l',q1,q2⟩:=f261_ok (a:=m-i) (b:=m) (n:=j) (l0:=l) (by omega) (by omega) (by omega)
        have hl2:decide (l'.length=l.length)=true:=decide_eq_true q2.length_eq
        refine .inr ⟨(((i-j:Nat):Int),(j:Int),l'),i-j+j,by omega,?_,i-j,j,l',rfl,q2.trans g2,by omega,g4,by omega,g6,rfl⟩
        simp only [f235L0,hd,if_true,hd2,wmi,q1,bind_some',chk_true hl2,wd i j (by omega) (by omega)]
      · have hd2:decide ((j:Int)<(i:Int))=false:=decide_eq_false (by omega)
        obtain⟨l',q1,q2⟩:=f261_ok (a:=m-i) (b:=m+j-i) (n:=i) (l0:=l) (by omega) (by omega) (by omega)
        have hl2:decide (l'.length=l.length)=true:=decide_eq_true q2.length_eq
        have ws:w64 ((m:Int)+(j:Int))=((m+j:Nat):Int):=by rw [w64_id (by omega) (by omega)];omega
        refine .inr ⟨((i:Int),((j-i:Nat):Int),l'),i+(j-i),by omega,?_,i,j-i,l',rfl,q2.trans g2,g3,by omega,g5,by omega,rfl⟩
        simp only [f235L0,hd,if_true,hd2,Bool.false_eq_true,if_false,wmi,ws,wd (m+j) i (by omega) (by omega),q1,bind_some',chk_true hl2,wd j i (by omega) (by omega)]) (n:=m-a+(b-m)) (by omega) (s:=(((m-a:Nat):Int),((b-m:Nat):Int),l0)) ⟨m-a,b-m,l0,rfl,.refl _,by omega,by omega,by omega,by omega,rfl⟩
  have hlen:=g2.length_eq
  obtain⟨l',q1,q2⟩:=f261_ok (a:=m-i) (b:=m) (n:=i) (l0:=l) (by omega) (by omega) (by omega)
  refine⟨l',?_,q2.trans g2⟩
  simp only [f235,wd m a (by omega) (by omega),wd b m (by omega) (by omega),e1,bind_some',wd m i (by omega) (by omega),q1]
end Go.Top
namespace Go.Top
open Go Go.Vc
theorem mid_tab:(List.range 100).all (fun s=>w64 (shrI .u64 (IntKind.u64.wrap (w64 (s:Int))) 1)==((s / 2:Nat):Int))=true:=by kernel_rfl
theorem mid_ok {a b:Nat} (h:a+b<100):w64 (shrI .u64 (IntKind.u64.wrap (w64 ((a:Int)+(b:Int)))) 1)=(((a+b) / 2:Nat):Int):=by
  have:=eq_of_beq (allRange mid_tab h)
  rw [show(a:Int)+(b:Int)=((a+b:Nat):Int) by omega]
  exact this
theorem wsub {x y:Nat} (h1:y≤x) (h2:x≤100000):w64 ((x:Int)-(y:Int))=((x-y:Nat):Int):=by rw [w64_id (by omega) (by omega)];omega
theorem wadd {x y:Nat} (h1:x≤100000) (h2:y≤100000):w64 ((x:Int)+(y:Int))=((x+y:Nat):Int):=by rw [w64_id (by omega) (by omega)];omega
theorem wsub1 {x:Nat} (h1:1≤x) (h2:x≤100000):w64 ((x:Int)-1)=((x-1:Nat):Int):=wsub (y:=1) h1 h2
theorem L0_ok {a m b:Nat} {l:List Binding} (hl:l.length≤40) (ha:a<l.length) (hm:m≤b) (hb:b≤l.length):∃ x:Nat,loopF (f198FL0 (a:Int) l) ((m:Int),(b:Int))=some (x:Int)∧m≤x∧x≤b:=by
  obtain⟨r,e,x,rfl,h1,h2⟩:=loopF_inv2 (tb:=f198FL0 (a:Int) l) (Q:=fun r=>∃ x:Nat,r=(x:Int)∧m≤x∧x≤b) (Inv:=fun k s=>∃ i j:Nat,s=((i:Int),(j:Int))∧m≤i∧i≤j∧j≤b∧k=j-i) (fun k s ⟨i,j,g1,g2,g3,g4,g5⟩=>by
    subst g1 g5
    by_cases hlt:i<j
    · have hd:decide ((i:Int)<(j:Int))=true:=decide_eq_true (by omega)
      have hmid:=mid_ok (a:=i) (b:=j) (by omega)
      have hx:=List.getElem?_eq_getElem (show(i+j) / 2<l.length by omega)
      have hy:=List.getElem?_eq_getElem ha
      obtain⟨c,hc⟩:=f80_tot l[(i+j) / 2] l[a]
      by_cases hc0:c<0
      · exact .inr ⟨((((i+j) / 2+1:Nat):Int),(j:Int)),j-((i+j) / 2+1),by omega,by
          simp only [f198FL0,hd,if_true,hmid,idx_nat hx,idx_nat hy,bind_some',hc,decide_eq_true hc0,w64_succ (show(i+j) / 2≤4611686018427387904 by omega)],(i+j) / 2+1,j,rfl,by omega,by omega,g4,rfl⟩
      · exact .inr ⟨((i:Int),(((i+j) / 2:Nat):Int)),(i+j) / 2-i,by omega,by
          simp only [f198FL0,hd,if_true,hmid,idx_nat hx,idx_nat hy,bind_some',hc,decide_eq_false hc0,Bool.false_eq_true,if_false],i,(i+j) / 2,rfl,g2,by omega,by omega,rfl⟩
    · have hd:decide ((i:Int)<(j:Int))=false:=decide_eq_false (by omega)
      exact .inl ⟨(i:Int),by simp only [f198FL0,hd,Bool.false_eq_true,if_false],i,rfl,g2,by omega⟩) (n:=b-m) (by omega) (s:=((m:Int),(b:Int))) ⟨m,b,rfl,Nat.le_refl _,hm,Nat.le_refl _,rfl⟩
  exact⟨x,e,h1,h2⟩
theorem L2_ok {a m:Nat} {l:List Binding} (hl:l.length≤40) (hm:m<l.length) (ha:a≤m):∃ x:Nat,loopF (f198FL2 (m:Int) l) ((a:Int),(m:Int))=some (x:Int)∧a≤x∧x≤m:=by
  obtain⟨r,e,x,rfl,h1,h2⟩:=loopF_inv2 (tb:=f198FL2 (m:Int) l) (Q:=fun r=>∃ x:Nat,r=(x:Int)∧a≤x∧x≤m) (Inv:=fun k s=>∃ i j:Nat,s=((i:Int),(j:Int))∧a≤i∧i≤j∧j≤m∧k=j-i) (fun k s ⟨i,j,g1,g2,g3,g4,g5⟩=>by
    subst g1 g5
    by_cases hlt:i<j
    · have hd:decide ((i:Int)<(j:Int))=true:=decide_eq_true (by omega)
      have hmid:=mid_ok (a:=i) (b:=j) (by omega)
      have hx:=List.getElem?_eq_getElem (show(i+j) / 2<l.length by omega)
      have hy:=List.getElem?_eq_getElem hm
      obtain⟨c,hc⟩:=f80_tot l[m] l[(i+j) / 2]
      by_cases hc0:c<0
      · exact .inr ⟨((i:Int),(((i+j) / 2:Nat):Int)),(i+j) / 2-i,by omega,by
          simp only [f198FL2,hd,if_true,hmid,idx_nat hx,idx_nat hy,bind_some',hc,decide_eq_true hc0,Bool.not_true,Bool.false_eq_true,if_false],i,(i+j) / 2,rfl,g2,by omega,by omega,rfl⟩
      · exact .inr ⟨((((i+j) / 2+1:Nat):Int),(j:Int)),j-((i+j) / 2+1),by omega,by
          simp only [f198FL2,hd,if_true,hmid,idx_nat hx,idx_nat hy,bind_some',hc,decide_eq_false hc0,Bool.not_false,w64_succ (show(i+j) / 2≤4611686018427387904 by omega)],(i+j) / 2+1,j,rfl,by omega,by omega,g4,rfl⟩
    · have hd:decide ((i:Int)<(j:Int))=false:=decide_eq_false (by omega)
      exact .inl ⟨(i:Int),by simp only [f198FL2,hd,Bool.false_eq_true,if_false],i,rfl,g2,by omega⟩) (n:=m-a) (by omega) (s:=((a:Int),(m:Int))) ⟨a,m,rfl,Nat.le_refl _,ha,Nat.le_refl _,rfl⟩
  exact⟨x,e,h1,h2⟩
theorem L4_ok {m mid s0 r0:Nat} {l:List Binding} (hl:l.length≤40) (hmid:mid≤l.length) (hm:1≤m) (hm2:m≤l.length) (hsr:s0≤r0) (hr:r0≤l.length) (hp:∀ c,s0≤c→c<r0→c+1≤mid+m∧mid+m-1-c<l.length) {y:Int} (hy:w64 y=(mid:Int)) :
    ∃ x:Nat,loopF (f198FL4 (m:Int) l y) ((s0:Int),(r0:Int))=some (x:Int)∧s0≤x∧x≤r0:=by
  obtain⟨r,e,x,rfl,h1,h2⟩:=loopF_inv2 (tb:=f198FL4 (m:Int) l y) (Q:=fun r=>∃ x:Nat,r=(x:Int)∧s0≤x∧x≤r0) (Inv:=fun k s=>∃ i j:Nat,s=((i:Int),(j:Int))∧s0≤i∧i≤j∧j≤r0∧k=j-i) (fun k s ⟨i,j,g1,g2,g3,g4,g5⟩=>by
    subst g1 g5
    by_cases hlt:i<j
    · have hd:decide ((i:Int)<(j:Int))=true:=decide_eq_true (by omega)
      have hmd:=mid_ok (a:=i) (b:=j) (by omega)
      have hc1:=hp ((i+j) / 2) (by omega) (by omega)
      have hx:=List.getElem?_eq_getElem hc1.2
      have hz:=List.getElem?_eq_getElem (show(i+j) / 2<l.length by omega)
      obtain⟨c,hc⟩:=f80_tot l[mid+m-1-(i+j) / 2] l[(i+j) / 2]
      have w1:w64 ((w64 y)+(m:Int))=((mid+m:Nat):Int):=by rw [hy];exact wadd (by omega) (by omega)
      have w2:w64 (w64 ((w64 y)+(m:Int))-1)=((mid+m-1:Nat):Int):=by rw [w1];exact wsub1 (by omega) (by omega)
      have w3:w64 ((w64 (w64 ((w64 y)+(m:Int))-1))-(((i+j) / 2:Nat):Int))=((mid+m-1-(i+j) / 2:Nat):Int):=by rw [w2];exact wsub (by omega) (by omega)
      by_cases hc0:c<0
      · exact .inr ⟨((i:Int),(((i+j) / 2:Nat):Int)),(i+j) / 2-i,by omega,by
          simp only [f198FL4,hd,if_true,w3,hmd,idx_nat hx,idx_nat hz,bind_some',hc,decide_eq_true hc0,Bool.not_true,Bool.false_eq_true,if_false],i,(i+j) / 2,rfl,g2,by omega,by omega,rfl⟩
      · exact .inr ⟨((((i+j) / 2+1:Nat):Int),(j:Int)),j-((i+j) / 2+1),by omega,by
          simp only [f198FL4,hd,if_true,w3,hmd,idx_nat hx,idx_nat hz,bind_some',hc,decide_eq_false hc0,Bool.not_false,w64_succ (show(i+j) / 2≤4611686018427387904 by omega)],(i+j) / 2+1,j,rfl,by omega,by omega,g4,rfl⟩
    · have hd:decide ((i:Int)<(j:Int))=false:=decide_eq_false (by omega)
      exact .inl ⟨(i:Int),by simp only [f198FL4,hd,Bool.false_eq_true,if_false],i,rfl,g2,by omega⟩) (n:=r0-s0) (by omega) (s:=((s0:Int),(r0:Int))) ⟨s0,r0,rfl,Nat.le_refl _,hsr,Nat.le_refl _,rfl⟩
  exact⟨x,e,h1,h2⟩
theorem L1_ok {x a:Nat} {l0:List Binding} (hl0:l0.length≤40) (hx:x≤l0.length) (hx1:1≤x) (hax:a≤40):∃ l',loopF (f198FL1 (x:Int)) ((a:Int),l0)=some l'∧l'.Perm l0:=by
  refine loopF_inv2 (tb:=f198FL1 (x:Int)) (Q:=fun l'=>l'.Perm l0) (Inv:=fun k s=>∃ (j:Nat) (l:List Binding),s=((j:Int),l)∧l.Perm l0∧j≤80∧k=80-j) (fun k s ⟨j,l,g1,g2,g3,g4⟩ => ?_) (n:=80-a) (by omega) ⟨a,l0,rfl,.refl _,by omega,rfl⟩
  subst g1 g4
  have hlen:=g2.length_eq
  have hw:=wsub1 hx1 (by omega)
  by_cases hlt:j<x-1
  · have hd:decide ((j:Int)<((x-1:Nat):Int))=true:=decide_eq_true (by omega)
    have hs:w64 ((j:Int)+1)=((j+1:Nat):Int):=w64_succ (by omega)
    have h1:=List.getElem?_eq_getElem (show j+1<l.length by omega)
    have h2:=List.getElem?_eq_getElem (show j<l.length by omega)
    generalize l[j+1]=p at h1
    generalize l[j]=q at h2
    have hz:(l.set j p)[j+1]? = some p:=by rw [List.getElem?_set_ne (by omega)];exact h1
    have hl1:decide ((l.set j p).length=l.length)=true:=by simp
    have hl2:decide (((l.set j p).set (j+1) q).length=l.length)=true:=by simp
    exact .inr ⟨(((j+1:Nat):Int),(l.set j p).set (j+1) q),80-(j+1),by omega,by
      simp only [f198FL1,hw,hd,if_true,hs,idx_nat h1,idx_nat h2,bind_some',Int.toNat_natCast,chk_true hl1,idx_nat hz,chk_true hl2],j+1,_,rfl,(swap_perm h2 h1).trans g2,by omega,rfl⟩
  · have hd:decide ((j:Int)<((x-1:Nat):Int))=false:=decide_eq_false (by omega)
    exact .inl ⟨l,by simp only [f198FL1,hw,hd,Bool.false_eq_true,if_false],g2⟩
theorem L3_ok {x m:Nat} {l0:List Binding} (hl0:l0.length≤40) (hm:m<l0.length):∃ l',loopF (f198FL3 (x:Int)) ((m:Int),l0)=some l'∧l'.Perm l0:=by
  refine loopF_inv2 (tb:=f198FL3 (x:Int)) (Q:=fun l'=>l'.Perm l0) (Inv:=fun k s=>∃ (j:Nat) (l:List Binding),s=((j:Int),l)∧l.Perm l0∧j≤m∧k=j) (fun k s ⟨j,l,g1,g2,g3,g4⟩ => ?_) (n:=m) (by omega) ⟨m,l0,rfl,.refl _,Nat.le_refl _,rfl⟩
  subst g1 g4
  have hlen:=g2.length_eq
  by_cases hlt:x<k
  · have hd:decide ((x:Int)<(k:Int))=true:=decide_eq_true (by omega)
    have hs:=wsub1 (x:=k) (by omega) (by omega)
    have h1:=List.getElem?_eq_getElem (show k-1<l.length by omega)
    have h2:=List.getElem?_eq_getElem (show k<l.length by omega)
    generalize l[k-1]=p at h1
    generalize l[k]=q at h2
    have hz:(l.set k p)[k-1]? = some p:=by rw [List.getElem?_set_ne (by omega)];exact h1
    have hl1:decide ((l.set k p).length=l.length)=true:=by simp
    have hl2:decide (((l.set k p).set (k-1) q).length=l.length)=true:=by simp
    exact .inr ⟨(((k-1:Nat):Int),(l.set k p).set (k-1) q),k-1,by omega,by
      simp only [f198FL3,hd,if_true,hs,idx_nat h1,idx_nat h2,bind_some',Int.toNat_natCast,chk_true hl1,idx_nat hz,chk_true hl2],k-1,_,rfl,(swap_perm h2 h1).trans g2,by omega,rfl⟩
  · have hd:decide ((x:Int)<(k:Int))=false:=decide_eq_false (by omega)
    exact .inl ⟨l,by simp only [f198FL3,hd,Bool.false_eq_true,if_false],g2⟩
end Go.Top
namespace Go.Top
open Go Go.Vc
theorem sym_step {n:Nat} (ih:∀ (a m b:Nat) (l:List Binding),l.length≤40→a<m→m<b→b≤l.length→b-a≤n→∃ l',f198 n (a:Int) (m:Int) (b:Int) l=some l'∧l'.Perm l)
    {a m b:Nat} {l:List Binding} (hl:l.length≤40) (h1:a<m) (h2:m<b) (hb:b≤l.length) (hn:b-a≤n+1):∃ l',f198B (f198 n) (a:Int) (m:Int) (b:Int) l=some l'∧l'.Perm l:=by
  have wma:=wsub (x:=m) (y:=a) (by omega) (by omega)
  have wbm:=wsub (x:=b) (y:=m) (by omega) (by omega)
  have eqn:∀ k:Nat,(((k:Int)==1):Bool)=decide (k=1):=fun k=>by
    by_cases h:k=1
    · subst h;rfl
    · rw [decide_eq_false h];exact beq_eq_false_iff_ne.2 (by omega)
  by_cases c1:m-a=1
  · have d1:=(eqn (m-a)).trans (decide_eq_true c1)
    obtain⟨x,e1,x1,x2⟩:=L0_ok (a:=a) (m:=m) (b:=b) hl (by omega) (by omega) hb
    obtain⟨l',e2,p2⟩:=L1_ok (x:=x) (a:=a) hl (by omega) (by omega) (by omega)
    exact⟨l',by simp only [f198B,wma,d1,if_true,e1,e2,bind_some'],p2⟩
  · have d1:=(eqn (m-a)).trans (decide_eq_false c1)
    by_cases c2:b-m=1
    · have d2:=(eqn (b-m)).trans (decide_eq_true c2)
      obtain⟨x,e1,x1,x2⟩:=L2_ok (a:=a) (m:=m) hl (by omega) (by omega)
      obtain⟨l',e2,p2⟩:=L3_ok (x:=x) (m:=m) hl (by omega)
      exact⟨l',by simp only [f198B,wma,wbm,d1,d2,Bool.false_eq_true,if_false,if_true,e1,e2,bind_some'],p2⟩
    · have d2:=(eqn (b-m)).trans (decide_eq_false c2)
      have hmid:=mid_ok (a:=a) (b:=b) (by omega)
      generalize hy:shrI .u64 (IntKind.u64.wrap (w64 ((a:Int)+(b:Int)))) 1=y at hmid
      generalize hq:(a+b) / 2=mid at hmid
      have q1:a<mid:=by omega
      have q2:mid<b:=by omega
      have wn:w64 (w64 y+(m:Int))=((mid+m:Nat):Int):=by rw [hmid];exact wadd (by omega) (by omega)
      -- where the search runs
      have search:∃ x:Nat,(mid<m→loopF (f198FL4 (m:Int) l y) (((mid+m-b:Nat):Int),(mid:Int))=some (x:Int))∧(¬ mid<m→loopF (f198FL4 (m:Int) l y) ((a:Int),(m:Int))=some (x:Int))∧a≤x∧x≤m∧x≤mid∧mid+m-x≤b∧mid≤mid+m-x:=by
        by_cases hc:mid<m
        · obtain⟨x,e,x1,x2⟩:=L4_ok (m:=m) (mid:=mid) (s0:=mid+m-b) (r0:=mid) hl (by omega) (by omega) (by omega) (by omega) (by omega) (fun c hc1 hc2=>⟨by omega,by omega⟩) hmid
          exact⟨x,fun _=>e,fun h=>absurd hc h,by omega,by omega,by omega,by omega,by omega⟩
        · obtain⟨x,e,x1,x2⟩:=L4_ok (m:=m) (mid:=mid) (s0:=a) (r0:=m) hl (by omega) (by omega) (by omega) (by omega) (by omega) (fun c hc1 hc2=>⟨by omega,by omega⟩) hmid
          exact⟨x,fun h=>absurd h hc,fun _=>e,by omega,by omega,by omega,by omega,by omega⟩
      obtain⟨x,e4,e4',x1,x2,x3,x4,x5⟩:=search
      have we:w64 (((mid+m:Nat):Int)-(x:Int))=((mid+m-x:Nat):Int):=wsub (by omega) (by omega)
      have rot:∃ l1,l1.Perm l∧(x<m→m<mid+m-x→f235 (x:Int) (m:Int) ((mid+m-x:Nat):Int) l=some l1)∧(¬ (x<m∧m<mid+m-x)→l1=l):=by
        by_cases hc:x<m∧m<mid+m-x
        · obtain⟨l1,r1,r2⟩:=f235_ok (a:=x) (m:=m) (b:=mid+m-x) (l0:=l) (by omega) hc.1 hc.2 (by omega)
          exact⟨l1,r2,fun _ _=>r1,fun hno=>absurd hc hno⟩
        · exact⟨l,.refl _,fun q1 q2=>absurd ⟨q1,q2⟩ hc,fun _=>rfl⟩
      obtain⟨l1,p1,rt,rf⟩:=rot
      have len1:=p1.length_eq
      have left:∃ l2,l2.Perm l1∧(a<x→x<mid→f198 n (a:Int) (x:Int) (mid:Int) l1=some l2)∧(¬ (a<x∧x<mid)→l2=l1):=by
        by_cases hc:a<x∧x<mid
        · obtain⟨l2,r1,r2⟩:=ih a x mid l1 (by omega) hc.1 hc.2 (by omega) (by omega)
          exact⟨l2,r2,fun _ _=>r1,fun hno=>absurd hc hno⟩
        · exact⟨l1,.refl _,fun q1 q2=>absurd ⟨q1,q2⟩ hc,fun _=>rfl⟩
      obtain⟨l2,p2,lt,lf⟩:=left
      have len2:=p2.length_eq
      have right:∃ l3,l3.Perm l2∧(mid<mid+m-x→mid+m-x<b→f198 n (mid:Int) ((mid+m-x:Nat):Int) (b:Int) l2=some l3)∧(¬ (mid<mid+m-x∧mid+m-x<b)→l3=l2):=by
        by_cases hc:mid<mid+m-x∧mid+m-x<b
        · obtain⟨l3,r1,r2⟩:=ih mid (mid+m-x) b l2 (by omega) hc.1 hc.2 (by omega) (by omega)
          exact⟨l3,r2,fun _ _=>r1,fun hno=>absurd hc hno⟩
        · exact⟨l2,.refl _,fun q1 q2=>absurd ⟨q1,q2⟩ hc,fun _=>rfl⟩
      obtain⟨l3,p3,gt,gf⟩:=right
      refine⟨l3,?_,p3.trans (p2.trans p1)⟩
      have cl1:decide (l1.length=l.length)=true:=decide_eq_true len1
      have cl2:decide (l2.length=l1.length)=true:=decide_eq_true len2
      generalize hE:mid+m-x=e at we rt rf gt gf
      have part3:(if decide ((mid:Int)<(e:Int))=true then (if decide ((e:Int)<(b:Int))=true then (f198 n (mid:Int) (e:Int) (b:Int) l2).bind fun x52=>some x52 else some l2) else some l2)=some l3:=by
        by_cases k1:mid<e
        · rw [if_pos (decide_eq_true (show(mid:Int)<(e:Int) by omega))]
          by_cases k2:e<b
          · rw [if_pos (decide_eq_true (show(e:Int)<(b:Int) by omega)),gt k1 k2];rfl
          · rw [if_neg (by rw [decide_eq_true_eq];omega),gf fun h=>k2 h.2]
        · rw [if_neg (by rw [decide_eq_true_eq];omega),gf fun h=>k1 h.1]
      have part2:∀ K:List Binding→Option (List Binding),K l2=some l3→(if decide ((a:Int)<(x:Int))=true then (if decide ((x:Int)<(mid:Int))=true then (f198 n (a:Int) (x:Int) (mid:Int) l1).bind fun x58=>Vc.chk (decide (x58.length=l1.length)) (K x58) else K l1) else K l1)=some l3:=fun K hK=>by
        by_cases k1:a<x
        · rw [if_pos (decide_eq_true (show(a:Int)<(x:Int) by omega))]
          by_cases k2:x<mid
          · rw [if_pos (decide_eq_true (show(x:Int)<(mid:Int) by omega)),lt k1 k2,bind_some',chk_true cl2];exact hK
          · rw [if_neg (by rw [decide_eq_true_eq];omega),← lf fun h=>k2 h.2];exact hK
        · rw [if_neg (by rw [decide_eq_true_eq];omega),← lf fun h=>k1 h.1];exact hK
      have part1:∀ K:List Binding→Option (List Binding),K l1=some l3→(if decide ((x:Int)<(m:Int))=true then (if decide ((m:Int)<(e:Int))=true then (f235 (x:Int) (m:Int) (e:Int) l).bind fun x62=>Vc.chk (decide (x62.length=l.length)) (K x62) else K l) else K l)=some l3:=fun K hK=>by
        by_cases k1:x<m
        · rw [if_pos (decide_eq_true (show(x:Int)<(m:Int) by omega))]
          by_cases k2:m<e
          · rw [if_pos (decide_eq_true (show(m:Int)<(e:Int) by omega)),rt k1 k2,bind_some',chk_true cl1];exact hK
          · rw [if_neg (by rw [decide_eq_true_eq];omega),← rf fun h=>k2 h.2];exact hK
        · rw [if_neg (by rw [decide_eq_true_eq];omega),← rf fun h=>k1 h.1];exact hK
      simp only [f198B,wma,wbm,d1,d2,Bool.false_eq_true,if_false,hy,jn_eq,hmid]
      have wn:w64 ((mid:Int)+(m:Int))=((mid+m:Nat):Int):=wadd (by omega) (by omega)
      by_cases hc:mid<m
      · have hd:decide ((mid:Int)<(m:Int))=true:=decide_eq_true (by omega)
        have ws:w64 (((mid+m:Nat):Int)-(b:Int))=((mid+m-b:Nat):Int):=wsub (by omega) (by omega)
        simp only [hd,if_true,wn,ws,e4 hc,bind_some',we]
        exact part1 _ (part2 _ part3)
      · have hd:decide ((mid:Int)<(m:Int))=false:=decide_eq_false (by omega)
        simp only [hd,Bool.false_eq_true,if_false,wn,e4' hc,bind_some',we]
        exact part1 _ (part2 _ part3)
theorem sym_ok:∀ (n a m b:Nat) (l:List Binding),l.length≤40→a<m→m<b→b≤l.length→b-a≤n→∃ l',f198 n (a:Int) (m:Int) (b:Int) l=some l'∧l'.Perm l
  | 0,a,m,b,l,_,h1,h2,_,h=>by omega
  | n+1,a,m,b,l,hl,h1,h2,hb,hn=>sym_step (n:=n) (fun a m b l=>sym_ok n a m b l) hl h1 h2 hb hn
theorem f198F_ok {a m b:Nat} {l:List Binding} (hl:l.length≤40) (h1:a<m) (h2:m<b) (hb:b≤l.length):∃ l',f198F (a:Int) (m:Int) (b:Int) l=some l'∧l'.Perm l:=sym_ok 40 a m b l hl h1 h2 hb (by omega)
theorem f79_ok {l:List Binding} (hl:l.length≤28):∃ l',f79 l=some l'∧l'.Perm l:=by
  -- the blocks
  have blocks:∃ (a:Nat) (l1:List Binding),loopF (f140L0 (l.length:Int)) (0,20,l)=some ((a:Int),l1)∧l1.Perm l∧a≤20:=by
    by_cases h:20≤l.length
    · obtain⟨l1,r1,r2⟩:=f197_ok (a:=0) (b:=20) (l0:=l) (by omega) (by omega) h
      have r1:f197 0 20 l=some l1:=r1
      have hd:decide ((20:Int)≤(l.length:Int))=true:=decide_eq_true (by omega)
      have hd2:decide ((40:Int)≤(l.length:Int))=false:=decide_eq_false (by omega)
      have hl1:decide (l1.length=l.length)=true:=decide_eq_true r2.length_eq
      refine⟨20,l1,loopF_of (n:=2) (by decide) ?_,r2,by omega⟩
      have s1:f140L0 (l.length:Int) (0,20,l)=some (.inr (20,40,l1)):=by
        simp only [f140L0,hd,if_true,r1,bind_some',chk_true hl1];rfl
      have s2:f140L0 (l.length:Int) (20,40,l1)=some (.inl (20,l1)):=by
        simp only [f140L0,hd2,Bool.false_eq_true,if_false]
      rw [iter,s1]
      show iter _ 1 _=_
      rw [iter,s2];rfl
    · have hd:decide ((20:Int)≤(l.length:Int))=false:=decide_eq_false (by omega)
      exact⟨0,l,loopF_of (n:=1) (by decide) (by simp only [iter,f140L0,hd,Bool.false_eq_true,if_false,bind_some'];rfl),.refl _,by omega⟩
  obtain⟨a,l1,b1,b2,b3⟩:=blocks
  have len1:=b2.length_eq
  obtain⟨l2,c1,c2⟩:=f197_ok (a:=a) (b:=l.length) (l0:=l1) (by omega) (by omega) (by omega)
  have len2:=c2.length_eq
  have hl2:decide (l2.length=l1.length)=true:=decide_eq_true len2
  have merge:∃ l3,loopF (f140L1 (l.length:Int)) (20,l2)=some l3∧l3.Perm l2:=by
    by_cases h:20<l.length
    · obtain⟨l3,r1,r2⟩:=f198F_ok (a:=0) (m:=20) (b:=l.length) (l:=l2) (by omega) (by omega) h (by omega)
      have r1:f198F 0 20 (l.length:Int) l2=some l3:=r1
      have hd:decide ((20:Int)<(l.length:Int))=true:=decide_eq_true (by omega)
      have hd2:decide ((40:Int)<(l.length:Int))=false:=decide_eq_false (by omega)
      have hd3:decide ((40:Int)≤(l.length:Int))=false:=decide_eq_false (by omega)
      have hl3:decide (l3.length=l2.length)=true:=decide_eq_true r2.length_eq
      have in0:loopF (f140L2 (l.length:Int) (20,l2)) (0,40,l2)=some (0,l2):=loopF_of (n:=1) (by decide) (by
        simp only [iter,f140L2,hd3,Bool.false_eq_true,if_false,bind_some'])
      have s1:f140L1 (l.length:Int) (20,l2)=some (.inr (40,l3)):=by
        simp only [f140L1,hd,if_true,show w64 (2*20)=40 from rfl,in0,bind_some',show w64 (0+20)=20 from rfl,r1,chk_true hl3,show w64 (20*2)=40 from rfl]
      have s2:f140L1 (l.length:Int) (40,l3)=some (.inl l3):=by
        simp only [f140L1,hd2,Bool.false_eq_true,if_false]
      refine⟨l3,loopF_of (n:=2) (by decide) ?_,r2⟩
      rw [iter,s1]
      show iter _ 1 _=_
      rw [iter,s2];rfl
    · have hd:decide ((20:Int)<(l.length:Int))=false:=decide_eq_false (by omega)
      exact⟨l2,loopF_of (n:=1) (by decide) (by simp only [iter,f140L1,hd,Bool.false_eq_true,if_false,bind_some']),.refl _⟩
  obtain⟨l3,e1,e2⟩:=merge
  exact⟨l3,by simp only [f79,f140,b1,bind_some',c1,chk_true hl2,e1],e2.trans (c2.trans b2)⟩
end Go.Top
namespace Go.Top
open Go Go.Vc
def mac0 (p:Port):MAC:=p.2.2.2.1.headD []
def bindsP (p:Port):List Binding:=(oneT p.2.2.2.2.1++oneT p.2.2.2.2.2).map fun a=>(a,mac0 p,p.1)
def bindsL (l:List Port):List Binding:=(l.map bindsP).flatten
theorem one_len (a:Addr):(oneT a).length≤1:=by unfold oneT;split<;>simp
theorem bindsP_len (p:Port):(bindsP p).length≤2:=by
  have h1:=one_len p.2.2.2.2.1
  have h2:=one_len p.2.2.2.2.2
  simp only [bindsP,List.length_map,List.length_append];omega
theorem bindsL_len:∀ l:List Port,(bindsL l).length≤2*l.length
  | []=>by simp [bindsL]
  | p :: l=>by
    have ih:=bindsL_len l
    have:=bindsP_len p
    simp only [bindsL,List.map_cons,List.flatten_cons,List.length_append,List.length_cons] at ih ⊢
    omega
theorem f36_1 {p:Port} (hm:1≤(pmacs p).length) {acc:List Binding} (ha:acc.length≤1000):loopF (f36L1 p (oneT p.2.2.2.2.1) (oneT p.2.2.2.2.2)) (0,acc)=some (acc++bindsP p):=by
  have h1:=one_len p.2.2.2.2.1
  have h2:=one_len p.2.2.2.2.2
  generalize hl:oneT p.2.2.2.2.1++oneT p.2.2.2.2.2=aa
  have hlen:aa.length≤2:=by rw [← hl,List.length_append];omega
  have hm0:idx p.2.2.2.1 0=some (mac0 p):=by
    have:pmacs p=p.2.2.2.1:=rfl
    rw [this] at hm
    unfold mac0
    match p.2.2.2.1,hm with
    | x :: r,_=>rfl
  have:=loopF_range (tb:=f36L1 p (oneT p.2.2.2.2.1) (oneT p.2.2.2.2.2)) (x:=acc++bindsP p) (fun i=>((i:Int),acc++(aa.take i).map fun a=>(a,mac0 p,p.1))) aa.length (by omega) (fun i hi=>by
    have hat:=List.getElem?_eq_getElem hi
    generalize aa[i]=a at hat
    have hq:(acc++(aa.take i).map (fun a=>((a,mac0 p,p.1):Binding))++[(a,mac0 p,p.1)]).length≤4294967296:=by simp;omega
    simp only [f36L1,hl,lt_len hat,if_true,idx_nat hat,bind_some',hm0]
    rw [chk_true (lenLIM hq),le_len hat (by omega),take_map hat,List.append_assoc]) (by
    simp only [f36L1,hl,at_len,Bool.false_eq_true,if_false,List.take_length,bindsP])
  simpa using this
theorem f36_0 {l:List Port} (h:Row l):loopF (f36L0 l) (0,[])=some (bindsL l):=by
  have hl:=h.1
  have:=loopF_range (tb:=f36L0 l) (x:=bindsL l) (fun i=>((i:Int),bindsL (l.take i))) l.length (by omega) (fun i hi=>by
    have hat:=List.getElem?_eq_getElem hi
    generalize l[i]=p at hat
    have hm:=h.pmacs hat
    have h0:((p.2.2.2.1.length:Int)==0)=false:=beq_eq_false_iff_ne.2 (by have:(pmacs p).length=p.2.2.2.1.length:=rfl;omega)
    have hb:=bindsL_len (l.take i)
    have hb2:(l.take i).length≤14:=by rw [List.length_take];omega
    have hin:=f36_1 (p:=p) hm.1 (acc:=bindsL (l.take i)) (by omega)
    have h1:=one_len p.2.2.2.2.1
    have h2:=one_len p.2.2.2.2.2
    have e:bindsL (l.take (i+1))=bindsL (l.take i)++bindsP p:=take_flat hat
    have hq:(oneT p.2.2.2.2.1++oneT p.2.2.2.2.2).length≤4294967296:=by rw [List.length_append];omega
    simp only [f36L0,lt_len hat,if_true,idx_nat hat,bind_some',h0,Bool.false_eq_true,if_false,f72_ok]
    rw [chk_true (lenLIM hq),hin,bind_some',le_len hat (by omega),e]) (by
    simp only [f36L0,at_len,Bool.false_eq_true,if_false,List.take_length])
  exact this
theorem f36_ok {d:Database} (h:Made d):∃ b,f36 d=some b∧b.Perm (bindsL (allP (owners d))):=by
  have hf:=h.few
  have hb:=bindsL_len (allP (owners d))
  obtain⟨b,h1,h2⟩:=f79_ok (l:=bindsL (allP (owners d))) (by omega)
  have hl:decide ((bindsL (allP (owners d))).length=b.length)=true:=decide_eq_true h2.length_eq.symm
  exact⟨b,by simp only [f36,f70_ok h,bind_some',f36_0 h.row,h1,chk_true hl],h2⟩
theorem f7_0 {l:List Port} {r:List Rule} {z:Int} (h:Row l) (hr:RulesOf l r):loopF (f7L0 (r,z)) 0=some (Sum.inl ()):=by
  have hl:=h.1
  have hrl:=hr.len
  refine loopF_list (l:=r) (by omega) (fun i a ha => ?_) (by simp only [f7L0,at_len,Bool.false_eq_true,if_false])
  have hlt:=len_of ha
  have hat:=List.getElem?_eq_getElem (show i<l.length by omega)
  generalize l[i]=p at hat
  obtain⟨c,hc⟩:=hr.get i p hat
  rw [ha] at hc
  cases hc
  have hn:=h.2 i p hat
  have hm:=h.pmacs hat
  have h0:((p.2.2.2.1.length:Int)==0)=false:=beq_eq_false_iff_ne.2 (by have:(pmacs p).length=p.2.2.2.1.length:=rfl;omega)
  obtain⟨o,sw,sp,two,vc,b1,b2,b3,b4,e⟩:=hn
  have hsw:p.2.1=(sw:Int):=by rw [e];rfl
  have s1:decide (p.2.1<0)=false:=decide_eq_false (by omega)
  have s2:decide (3<p.2.1)=false:=decide_eq_false (by omega)
  have hsum:((w64 (((oneT p.2.2.2.2.1).length:Int)+((oneT p.2.2.2.2.2).length:Int)))==0)=false:=by
    have e4:oneT (fourT (i+1))=[fourT (i+1)]:=by unfold oneT;rw [eqAddr_f four_ne];rfl
    have e6:oneT (sixT (i+1))=[sixT (i+1)]:=by unfold oneT;rw [eqAddr_f six_ne];rfl
    have e0:oneT zeroA=[]:=by unfold oneT;rw [(eqAddr _ _).2 rfl];rfl
    rcases addrs_of (h.2 i p hat) with ⟨h1,h2⟩ | ⟨h1,h2⟩ | ⟨h1,h2⟩<;>rw [h1,h2]<;>simp only [e4,e6,e0]<;>rfl
  simp only [f7L0,lt_len ha,if_true,idx_nat ha,bind_some',jn_eq,h0,s1,s2,hsum,Bool.false_eq_true,if_false,le_len ha (by omega)]
theorem f7_ok {d:Database} (h:Made d) (m:Int):∃ r b,f7 d m pw deBr=some (r,b,true,d)∧RulesOf (allP (owners d)) r∧b.Perm (bindsL (allP (owners d))):=by
  obtain⟨r,h1,h2⟩:=f33_ok h
  obtain⟨x,h3,h4⟩:=f35_ok h
  obtain⟨b,h5,h6⟩:=f36_ok h
  have hlen:((r.length:Int) != (x.length:Int))=false:=by
    have:=h2.len
    rw [h4,this];simp
  exact⟨r,b,by simp only [f7,f31_ok h,bind_some',f32_ok h,h1,jn_eq,show((0:Int) != 0)=false from rfl,Bool.false_eq_true,if_false,f34_ok h,h3,hlen,f7_0 (z:=0) h.row h2,caseT,h5],h2,h6⟩
end Go.Top
namespace Go.Top
open Go Go.Vc
def hd6:List Int:=[0,1,8,0,6,4]
theorem awake_ok (m:Int):f15 hd6 m pw deBr=some true:=by kernel_rfl
end Go.Top
namespace Go.Top
open Go Go.Vc
theorem f9_ok (x:Int) {n:Nat} (hn:0<n) (hn2:n≤1000000):∃ v:Nat,f9 x n=some (v:Int)∧v<n:=by
  unfold f9
  rw [chk_true (show((n:Int) != 0)=true by simp;omega)]
  have hp:(0:Int)<n:=by omega
  have hlt2:=Int.tmod_lt_of_pos x hp
  by_cases hneg:Int.tmod x n<0
  · rw [if_pos (decide_eq_true hneg)]
    have h3:-(n:Int)<Int.tmod x n:=Int.lt_tmod_of_pos x hp
    rw [w64_id (by omega) (by omega)]
    exact⟨(Int.tmod x n+n).toNat,by rw [Int.toNat_of_nonneg (by omega)],by omega⟩
  · rw [if_neg (by rw [decide_eq_true_eq];exact hneg)]
    exact⟨(Int.tmod x n).toNat,by rw [Int.toNat_of_nonneg (by omega)],by omega⟩
-- a rule found again
theorem f108_ok {l:List Addr} (h:l.length≤100):f108 l=some l:=by
  unfold f108
  by_cases h0:0<l.length
  · rw [if_pos (decide_eq_true (by omega)),chk_true (lenLIM (by simp;omega)),List.nil_append]
  · have:l=[]:=List.eq_nil_of_length_eq_zero (by omega)
    subst this
    rfl
def ruleT (p:Port) (c:Int):Rule:=(p.1,c,p.2.1,p.2.2.2.1,oneT p.2.2.2.2.1,oneT p.2.2.2.2.2,2,3)
theorem f62_ok {p:Port} (hm:1≤(pmacs p).length∧(pmacs p).length≤2) (c:Int):f62 (ruleT p c)=some (ruleT p c):=by
  have h1:f107 (ruleT p c).2.2.2.1=some (ruleT p c).2.2.2.1:=f107_ok (ms:=pmacs p) hm.1 (by omega)
  have h2:f108 (ruleT p c).2.2.2.2.1=some (ruleT p c).2.2.2.2.1:=f108_ok (by have:=one_len p.2.2.2.2.1;show(oneT p.2.2.2.2.1).length≤100;omega)
  have h3:f108 (ruleT p c).2.2.2.2.2.1=some (ruleT p c).2.2.2.2.2.1:=f108_ok (by have:=one_len p.2.2.2.2.2;show(oneT p.2.2.2.2.2).length≤100;omega)
  simp only [f62,h1,h2,h3,bind_some']
theorem Row.id_ne {l:List Port} (h:Row l) {i j:Nat} {p q:Port} (hp:l[i]? = some p) (hq:l[j]? = some q) (hij:i≠j):p.1≠q.1:=by
  obtain⟨o,ho,e1⟩:=id_of (h.2 i p hp)
  obtain⟨o',ho',e2⟩:=id_of (h.2 j q hq)
  rw [e1,e2];omega
theorem f28_ok {l:List Port} {r:List Rule} (h:Row l) (hr:RulesOf l r) {i:Nat} {p:Port} (hp:l[i]? = some p):∃ c,r[i]? = some (ruleT p c)∧f28 r p.1=some (true,ruleT p c):=by
  have hl:=h.1
  have hrl:=hr.len
  obtain⟨c,hc⟩:=hr.get i p hp
  have hc:r[i]? = some (ruleT p c):=hc
  have hi:=len_of hp
  refine⟨c,hc,?_⟩
  have loop:loopF (f28L0 r p.1) 0=some (.inr (ruleT p c)):=loopF_range (tb:=f28L0 r p.1) (fun k=>(k:Int)) i (by omega) (fun k hk=>by
    have hkl:=List.getElem?_eq_getElem (show k<l.length by omega)
    generalize l[k]=q at hkl
    obtain⟨c',hc'⟩:=hr.get k q hkl
    have hne:(q.1==p.1)=false:=beq_eq_false_iff_ne.2 (h.id_ne hkl hp (by omega))
    simp only [f28L0,lt_len hc',if_true,idx_nat hc',bind_some',hne,Bool.false_eq_true,if_false,le_len hc' (by omega)]) (by
    have he:((ruleT p c).1==p.1)=true:=beq_self_eq_true _
    simp only [f28L0,lt_len hc,if_true,idx_nat hc,bind_some',he,f62_ok (h.pmacs hp) c])
  simp only [f28,loop,bind_some',caseT]
-- stations and addresses of others
theorem f84_f {ms:List MAC} {x:MAC} (hl:ms.length≤100) (h:x∉ms):f84 ms x=some false:=by
  have:loopF (f144L0 ms x) 0=some (Sum.inl ():Unit⊕Int):=loopF_list (l:=ms) (x:=Sum.inl ()) (by omega) (fun i a ha=>by
    have hne:Ty.eqT cMAC x a=false:=by
      cases hb:Ty.eqT cMAC x a with
      | false=>rfl
      | true=>exact absurd ((eqMac x a).1 hb ▸ List.mem_of_getElem? ha) h
    simp only [f144L0,lt_len ha,if_true,idx_nat ha,bind_some',hne,Bool.false_eq_true,if_false,le_len ha (by omega)]) (by
    simp only [f144L0,at_len,Bool.false_eq_true,if_false])
  simp only [f84,f144,this,bind_some',caseT]
  rfl
theorem f84_t {ms:List MAC} {x:MAC} (h:ms.head? = some x):f84 ms x=some true:=by
  match ms,h with
  | y :: r,h =>
    simp at h
    subst h
    have he:Ty.eqT cMAC y y=true:=(eqMac y y).2 rfl
    have hd:decide ((0:Int)<(((y :: r).length:Nat):Int))=true:=decide_eq_true (by rw [List.length_cons];omega)
    have:loopF (f144L0 (y :: r) y) 0=some (Sum.inr 0:Unit⊕Int):=loopF_of (n:=1) (by decide) (by
      simp only [iter,f144L0,hd,if_true,show idx (y :: r) 0=some y from rfl,bind_some',he])
    simp only [f84,f144,this,bind_some',caseT]
    rfl
theorem f145_f {l:List Addr} {x:Addr} (hl:l.length≤100) (h:x∉l):f145 l x=some false:=by
  have:loopF (f200L0 l x) 0=some (Sum.inl ():Unit⊕Int):=loopF_list (l:=l) (x:=Sum.inl ()) (by omega) (fun i a ha=>by
    have hne:Ty.eqT cAddr x a=false:=eqAddr_f fun e=>h (e ▸ List.mem_of_getElem? ha)
    simp only [f200L0,lt_len ha,if_true,idx_nat ha,bind_some',hne,Bool.false_eq_true,if_false,le_len ha (by omega)]) (by
    simp only [f200L0,at_len,Bool.false_eq_true,if_false])
  simp only [f145,f200,this,bind_some',caseT]
  rfl
theorem f85_tot {t:List Int} (h:t.length=6):∃ b,f85 t=some b:=by
  match t,h with
  | [t0,t1,t2,t3,t4,t5],_ =>
    have e:idx [t0,t1,t2,t3,t4,t5] 5=some t5:=rfl
    simp only [f85,e,bind_some']
    split
    · exact⟨_,rfl⟩
    · exact⟨_,rfl⟩
theorem mac0_of {n:Nat} {p:Port} (h:IsPort n p):(pmacs p).head? = some (macT (100+n))∧idx p.2.2.2.1 0=some (macT (100+n)):=by
  have e:pmacs p=p.2.2.2.1:=rfl
  rcases pmacs_of h with h1 | h1
  · rw [← e,h1];exact⟨rfl,rfl⟩
  · rw [← e,h1];exact⟨rfl,rfl⟩
theorem mac_other {n k:Nat} {p:Port} (h:IsPort n p) (hk:k≠n) (hn:n≤14) (hk2:k≤14):macT (100+k)∉pmacs p:=fun hm=>by
  rcases pmacs_of h with h1 | h1<;>rw [h1] at hm<;>simp at hm
  · have:=macT_inj hm;omega
  · rcases hm with hm | hm
    · have:=macT_inj hm;omega
    · have:=macT_inj hm;omega
theorem v4_of {n:Nat} {p:Port} (h:IsPort n p):oneT p.2.2.2.2.1=[fourT n]∨oneT p.2.2.2.2.1=[]:=by
  have e4:oneT (fourT n)=[fourT n]:=by unfold oneT;rw [eqAddr_f four_ne];rfl
  have e0:oneT zeroA=[]:=by unfold oneT;rw [(eqAddr _ _).2 rfl];rfl
  rcases addrs_of h with ⟨h1,_⟩ | ⟨h1,_⟩ | ⟨h1,_⟩<;>rw [h1]
  · exact .inl e4
  · exact .inr e0
  · exact .inl e4
end Go.Top
namespace Go.Top
open Go Go.Vc
-- what is sent is read back
def seven:Addr:=(false,0,7)
def frames (op:Int) (n:Nat) (a:Addr) (t0 t1 t2 t3 t4 t5:Int):Option (Int×Int×Nat×List Int×Addr) :=
  (f11 (op,macT (100+n),a,[t0,t1,t2,t3,t4,t5],lan4.1)).bind fun x=>(f19 x.1 hd6).map fun y=>(x.2,y.1,x.1.length,y.2.2.1,y.2.2.2.1)
theorem frames_tab (t0 t1 t2 t3 t4 t5:Int):([1,2]:List Int).all (fun op=>(List.range 15).all fun n=>(seven :: (List.range 15).map fourT).all fun a=>frames op n a t0 t1 t2 t3 t4 t5==some (0,0,28,macT (100+n),a))=true:=by kernel_rfl
theorem frame_ok {op:Int} (hop:op=1∨op=2) {n:Nat} (hn:n<15) {a:Addr} (ha:a=seven∨∃ k,k<15∧a=fourT k) {t:List Int} (ht:t.length=6) :
    ∃ dat y,f11 (op,macT (100+n),a,t,lan4.1)=some (dat,0)∧dat.length=28∧f19 dat hd6=some (0,y)∧y.2.1=macT (100+n)∧y.2.2.1=a:=by
  match t,ht with
  | [t0,t1,t2,t3,t4,t5],_ =>
    have h1:=List.all_eq_true.1 (frames_tab t0 t1 t2 t3 t4 t5) op (by rcases hop with rfl | rfl<;>simp)
    have h2:=List.all_eq_true.1 h1 n (List.mem_range.2 hn)
    have h3:=eq_of_beq (List.all_eq_true.1 h2 a (by
      rcases ha with rfl | ⟨k,hk,rfl⟩
      · exact List.mem_cons_self ..
      · exact List.mem_cons_of_mem _ (List.mem_map.2 ⟨k,List.mem_range.2 hk,rfl⟩)))
    unfold frames at h3
    cases hx:f11 (op,macT (100+n),a,[t0,t1,t2,t3,t4,t5],lan4.1) with
    | none=>rw [hx] at h3;cases h3
    | some x =>
      rw [hx,bind_some'] at h3
      cases hy:f19 x.1 hd6 with
      | none=>rw [hy] at h3;cases h3
      | some y =>
        rw [hy] at h3
        simp only [Option.map_some,Option.some.injEq,Prod.mk.injEq] at h3
        obtain⟨e1,e2,e3,e4,e5⟩:=h3
        exact⟨x.1,y.2,by rw [← e1],e3,by rw [hy,← e2],e4,e5⟩
end Go.Top
namespace Go.Top
open Go Go.Vc
def Dropped (x:Option (Int×(Delivery×Link))) (v:Int→Prop):Prop:=∃ (c:Int) (dl:Delivery) (b:Link),x=some (c,dl,b)∧c≠0∧dl.1=0∧v c
theorem dropped_of {l:List Port} {r:List Rule} (h:Row l) (hr:RulesOf l r) {i:Nat} {p:Port} (hp:l[i]? = some p) {b:List Binding} {p4 p6:Prefix} {f:Fabric} {k:Link} {fr:Frame} {m0:MAC} {v:Int→Prop} (hg:∀ c,∃ x:Int,f42 (ruleT p c) p4 p6 fr m0=some x∧x≠0∧v x) :
    Dropped (f12 r b p4 p6 f k p.1 fr m0) v:=by
  obtain⟨c,h1,h2⟩:=f28_ok h hr hp
  obtain⟨x,hx,hx0,hv⟩:=hg c
  have hne:(x != 0)=true:=bne_iff_ne.2 hx0
  exact⟨x,(0,[],List.replicate 6 0,List.replicate 6 0,0,0,[]),k,by simp only [f12,h2,bind_some',Bool.not_true,Bool.false_eq_true,if_false,hx,hne,if_true],hx0,rfl,hv⟩
theorem guard_src {n k:Nat} {p:Port} (hn:IsPort n p) (hn1:n≤14) (hk:k≠n) (hk1:k≤14) {c:Int} {p4 p6:Prefix} {t:MAC} {v ty:Int} {dat:List Int} (hd:dat.length≤1500) {m0:MAC} :
    f42 (ruleT p c) p4 p6 (t,macT (100+k),v,ty,dat) m0=some 1:=by
  have hl:decide (1500<(dat.length:Int))=false:=decide_eq_false (by omega)
  have hml:(pmacs p).length≤100:=by rcases pmacs_of hn with e | e<;>rw [e]<;>simp
  have hc:f84 (ruleT p c).2.2.2.1 (macT (100+k))=some false:=f84_f (ms:=pmacs p) hml (mac_other hn hk hn1 hk1)
  simp only [f42,hl,Bool.false_eq_true,if_false,hc,bind_some',Bool.not_false,if_true]
theorem guard_arp {n:Nat} {p:Port} (hn:IsPort n p) (hn1:n≤14) {a:Addr} (ha:a=seven∨∃ k,k<15∧k≠n∧a=fourT k) {c:Int} {t:MAC} (ht:t.length=6) {dat:List Int} {y:ARP} (hd:dat.length=28) (hy:f19 dat hd6=some (0,y)) (h1:y.2.1=macT (100+n)) (h2:y.2.2.1=a) :
    ∃ x:Int,f42 (ruleT p c) lan4 lan6 (t,macT (100+n),0,2054,dat) hd6=some x∧x≠0:=by
  have hl:decide (1500<(dat.length:Int))=false:=decide_eq_false (by omega)
  have hc:f84 (ruleT p c).2.2.2.1 (macT (100+n))=some true:=f84_t (ms:=pmacs p) (mac0_of hn).1
  obtain⟨b,hb⟩:=f85_tot ht
  cases b with
  | true=>exact⟨2,by simp only [f42,hl,Bool.false_eq_true,if_false,hc,bind_some',Bool.not_true,hb,if_true],by decide⟩
  | false =>
    have hv4:f145 (ruleT p c).2.2.2.2.1 a=some false:=f145_f (l:=oneT p.2.2.2.2.1) (by have:=one_len p.2.2.2.2.1;omega) (fun hm=>by
      rcases v4_of hn with e | e<;>rw [e] at hm
      · have hm:=List.mem_singleton.1 hm
        rcases ha with rfl | ⟨k,hk,hkn,rfl⟩
        · simp [seven,fourT] at hm;omega
        · exact hkn (four_inj hm)
      · cases hm)
    have he:Ty.eqT cMAC (macT (100+n)) (macT (100+n))=true:=(eqMac _ _).2 rfl
    have h86:f86 (ruleT p c) lan4 (t,macT (100+n),0,2054,dat) hd6=some 7:=by
      simp only [f86,hy,bind_some',show((0:Int) != 0)=false from rfl,Bool.false_eq_true,if_false,jn_eq,h1,h2,he,Bool.not_true,hv4,Bool.not_false,if_true]
    exact⟨7,by simp only [f42,hl,Bool.false_eq_true,if_false,hc,bind_some',Bool.not_true,hb,show((0:Int) != 0)=false from rfl,show((2054:Int)==2054)=true from rfl,if_true,h86],by decide⟩
structure Ctx where
  d:Database
  r:List Rule
  b:List Binding
  made:Made d
  rules:RulesOf (allP (owners d)) r
def Ctx.x2 (C:Ctx):(List Rule)×((List Binding)×(Bool×Database)):=(C.r,C.b,true,C.d)
theorem send_arp (C:Ctx) {i j:Nat} {p q:Port} (hp:(allP (owners C.d))[i]? = some p) (hq:(allP (owners C.d))[j]? = some q) (hij:i≠j) {y5:List Link} {p6:Int×(Int×((List Bool)×(List Bool)))} {m:MAC} (hm:m=macT (100+(i+1))∨m=macT (100+(j+1))) {a:Addr} (ha:a=seven∨a=fourT (j+1)) {t:MAC} (ht:t.length=6) {c:Int} {op:Int} (hop:op=1∨op=2) :
    ∃ op',op'=op+1∧f3L4 hd6 C.x2 (ruleT p c) y5 p6 m a t op=some (.inr op'):=by
  obtain⟨hpi,hi14⟩:=C.made.isPort hp
  obtain⟨hqj,hj14⟩:=C.made.isPort hq
  have hle:decide (op≤2)=true:=decide_eq_true (by omega)
  have e4:C.x2.2.2.2.1=lan4:=C.made.lan4
  have e6:C.x2.2.2.2.2.1=lan6:=C.made.lan6
  have hw:w64 (op+1)=op+1:=w64_id (by omega) (by omega)
  have haa:a=seven∨∃ k,k<15∧a=fourT k:=by
    rcases ha with h | h
    · exact .inl h
    · exact .inr ⟨j+1,by omega,h⟩
  have haa2:a=seven∨∃ k,k<15∧k≠i+1∧a=fourT k:=by
    rcases ha with h | h
    · exact .inl h
    · exact .inr ⟨j+1,by omega,by omega,h⟩
  have fin:∀ (dat:List Int),f11 (op,m,a,t,lan4.1)=some (dat,0)→Dropped (f12 C.r C.b lan4 lan6 (4,y5,p6.2.2.1,p6.2.2.2) (3,2,3) p.1 (t,m,0,2054,dat) hd6) (fun _=>True)→∃ op',op'=op+1∧f3L4 hd6 C.x2 (ruleT p c) y5 p6 m a t op=some (.inr op'):=fun dat h11 ⟨v,dl,bb,h12,hv,hdl,_⟩=>by
    have hv0:(v==0)=false:=beq_eq_false_iff_ne.2 hv
    have hdl0:(dl.1 != 0)=false:=by rw [hdl];rfl
    have h12':f12 C.x2.1 C.x2.2.1 lan4 lan6 (4,y5,p6.2.2.1,p6.2.2.2) (3,2,3) (ruleT p c).1 (t,m,0,2054,dat) hd6=some (v,dl,bb):=h12
    exact⟨op+1,rfl,by simp only [f3L4,hle,if_true,e4,e6,h11,bind_some',f13,h12',show((0:Int) != 0)=false from rfl,Bool.false_eq_true,if_false,hv0,hdl0,hw]⟩
  rcases hm with rfl | rfl
  · obtain⟨dat,y,g1,g2,g3,g4,g5⟩:=frame_ok hop (n:=i+1) (by omega) haa ht
    exact fin dat g1 (dropped_of C.made.row C.rules hp fun c=>by
      obtain⟨x,hx,hx0⟩:=guard_arp hpi hi14 haa2 (c:=c) ht g2 g3 g4 g5
      exact⟨x,hx,hx0,trivial⟩)
  · obtain⟨dat,y,g1,g2,g3,g4,g5⟩:=frame_ok hop (n:=j+1) (by omega) haa ht
    exact fin dat g1 (dropped_of C.made.row C.rules hp fun c=>⟨1,guard_src hpi hi14 (by omega) hj14 (by omega),by decide,trivial⟩)
theorem loop4 (C:Ctx) {i j:Nat} {p q:Port} (hp:(allP (owners C.d))[i]? = some p) (hq:(allP (owners C.d))[j]? = some q) (hij:i≠j) {y5:List Link} {p6:Int×(Int×((List Bool)×(List Bool)))} {m:MAC} (hm:m=macT (100+(i+1))∨m=macT (100+(j+1))) {a:Addr} (ha:a=seven∨a=fourT (j+1)) {t:MAC} (ht:t.length=6) {c:Int} :
    loopF (f3L4 hd6 C.x2 (ruleT p c) y5 p6 m a t) 1=some (.inl ()):=by
  obtain⟨_,rfl,s1⟩:=send_arp C hp hq hij (y5:=y5) (p6:=p6) hm ha ht (c:=c) (op:=1) (.inl rfl)
  obtain⟨_,rfl,s2⟩:=send_arp C hp hq hij (y5:=y5) (p6:=p6) hm ha ht (c:=c) (op:=2) (.inr rfl)
  refine loopF_of (n:=3) (by decide) ?_
  have s3:f3L4 hd6 C.x2 (ruleT p c) y5 p6 m a t (2+1)=some (.inl (.inl ())):=rfl
  have i1:iter (f3L4 hd6 C.x2 (ruleT p c) y5 p6 m a t) 1 (2+1)=some (.inl ()):=by rw [iter,s3];rfl
  have i2:iter (f3L4 hd6 C.x2 (ruleT p c) y5 p6 m a t) 2 2=some (.inl ()):=by rw [iter,s2];exact i1
  rw [iter,s1]
  exact i2
theorem loop3 (C:Ctx) {i j:Nat} {p q:Port} (hp:(allP (owners C.d))[i]? = some p) (hq:(allP (owners C.d))[j]? = some q) (hij:i≠j) {y5:List Link} {p6:Int×(Int×((List Bool)×(List Bool)))} {m:MAC} (hm:m=macT (100+(i+1))∨m=macT (100+(j+1))) {a:Addr} (ha:a=seven∨a=fourT (j+1)) {t0 t1 t2 t3:MAC} (h0:t0.length=6) (h1:t1.length=6) (h2:t2.length=6) (h3:t3.length=6) {c:Int} :
    loopF (f3L3 t1 hd6 C.x2 (ruleT p c) y5 p6 m a t0 t2 t3 4) 0=some (.inl ()):=by
  refine loopF_range (tb:=f3L3 t1 hd6 C.x2 (ruleT p c) y5 p6 m a t0 t2 t3 4) (fun k=>(k:Int)) 4 (by decide) (fun k hk => ?_) rfl
  have hat:∃ t,([t0,t1,t2,t3]:List MAC)[k]? = some t∧t.length=6:=by
    match k,hk with
    | 0,_=>exact⟨t0,rfl,h0⟩
    | 1,_=>exact⟨t1,rfl,h1⟩
    | 2,_=>exact⟨t2,rfl,h2⟩
    | 3,_=>exact⟨t3,rfl,h3⟩
  obtain⟨t,hat,ht⟩:=hat
  have hd:decide ((k:Int)<4)=true:=decide_eq_true (by omega)
  simp only [f3L3,hd,if_true,idx_nat hat,bind_some',loop4 C hp hq hij hm ha ht,caseT,w64_succ (show k≤4611686018427387904 by omega)]
theorem rule_mac0 (C:Ctx) {k:Nat} (hk:k<C.r.length):∃ R n,C.r[k]? = some R∧n≤14∧idx R.2.2.2.1 0=some (macT (100+n))∧1≤n:=by
  have hl:=C.rules.len
  have hat:=List.getElem?_eq_getElem (show k<(allP (owners C.d)).length by omega)
  generalize (allP (owners C.d))[k]=p at hat
  obtain⟨c,hc⟩:=C.rules.get k p hat
  obtain⟨h1,h2⟩:=C.made.isPort hat
  exact⟨_,k+1,hc,h2,(mac0_of h1).2,by omega⟩
theorem loop2 (C:Ctx) {i j:Nat} {p q:Port} (hp:(allP (owners C.d))[i]? = some p) (hq:(allP (owners C.d))[j]? = some q) (hij:i≠j) {y5:List Link} {p6:Int×(Int×((List Bool)×(List Bool)))} {m:MAC} (hm:m=macT (100+(i+1))∨m=macT (100+(j+1))) {dst:MAC} (hdst:dst.length=6) {c:Int} {al:List Addr} (has:∀ a∈al,a=seven∨a=fourT (j+1)) (hl:al.length≤100) :
    loopF (f3L2 dst hd6 C.x2 (ruleT p c) y5 p6 m al) 0=some (.inl ()):=by
  have hlen:=C.rules.len
  have hil:=len_of hp
  have hf:=C.made.few
  obtain⟨R0,n0,r1,r2,r3,_⟩:=rule_mac0 C (k:=0) (by omega)
  obtain⟨R9,n9,q1,q2,q3,_⟩:=rule_mac0 C (k:=C.r.length-1) (by omega)
  have hw:w64 ((C.x2.1.length:Int)-1)=((C.r.length-1:Nat):Int):=wsub (x:=C.r.length) (y:=1) (by omega) (by omega)
  have r1':idx C.x2.1 0=some R0:=idx_nat (k:=0) r1
  have q1':idx C.x2.1 ((C.r.length-1:Nat):Int)=some R9:=idx_nat q1
  refine loopF_list (l:=al) (by omega) (fun k a ha => ?_) (by simp only [f3L2,at_len,Bool.false_eq_true,if_false])
  have hin:=loop3 C hp hq hij (y5:=y5) (p6:=p6) hm (has a (List.mem_of_getElem? ha)) (t0:=[255,255,255,255,255,255]) (t1:=dst) (t2:=macT (100+n0)) (t3:=macT (100+n9)) rfl hdst rfl rfl (c:=c)
  simp only [f3L2,lt_len ha,if_true,idx_nat ha,bind_some',f10,r1',r3,hw,q1',q3]
  rw [show(([([255,255,255,255,255,255]:List Int),dst,macT (100+n0),macT (100+n9)]:List MAC).length:Int)=4 from rfl,hin,bind_some']
  simp only [caseT,le_len ha (by omega)]
theorem loop1 (C:Ctx) {i j:Nat} {p q:Port} (hp:(allP (owners C.d))[i]? = some p) (hq:(allP (owners C.d))[j]? = some q) (hij:i≠j) {y5:List Link} {p6:Int×(Int×((List Bool)×(List Bool)))} {dst:MAC} (hdst:dst.length=6) {c c':Int} :
    loopF (f3L1 dst hd6 C.x2 (ruleT p c) y5 p6 (ruleT q c') (macT (100+(i+1))) (macT (100+(j+1)))) 0=some (.inl ()):=by
  obtain⟨hqj,hj14⟩:=C.made.isPort hq
  have h4:(ruleT q c').2.2.2.2.1=oneT q.2.2.2.2.1:=rfl
  have h1:=one_len q.2.2.2.2.1
  have hin:∀ m,(m=macT (100+(i+1))∨m=macT (100+(j+1)))→loopF (f3L2 dst hd6 C.x2 (ruleT p c) y5 p6 m (oneT q.2.2.2.2.1++[seven])) 0=some (.inl ()):=fun m hm=>loop2 C hp hq hij hm hdst (fun a ha=>by
    rcases List.mem_append.1 ha with ha | ha
    · rcases v4_of hqj with e | e<;>rw [e] at ha
      · exact .inr (List.mem_singleton.1 ha)
      · cases ha
    · exact .inl (List.mem_singleton.1 ha)) (by simp;omega)
  refine loopF_range (tb:=f3L1 dst hd6 C.x2 (ruleT p c) y5 p6 (ruleT q c') (macT (100+(i+1))) (macT (100+(j+1)))) (fun k=>(k:Int)) 2 (by decide) (fun k hk => ?_) rfl
  have hat:∃ m,([macT (100+(i+1)),macT (100+(j+1))]:List MAC)[k]? = some m∧(m=macT (100+(i+1))∨m=macT (100+(j+1))):=by
    match k,hk with
    | 0,_=>exact⟨_,rfl,.inl rfl⟩
    | 1,_=>exact⟨_,rfl,.inr rfl⟩
  obtain⟨m,hat,hm⟩:=hat
  have hd:decide ((k:Int)<(([macT (100+(i+1)),macT (100+(j+1))]:List MAC).length:Int))=true:=lt_len hat
  have hq1:(oneT q.2.2.2.2.1).length≤4294967296:=by omega
  have hq2:(oneT q.2.2.2.2.1++[((false,0,7):Addr)]).length≤4294967296:=by simp;omega
  have hin:=hin m hm
  have hin:loopF (f3L2 dst hd6 C.x2 (ruleT p c) y5 p6 m (oneT q.2.2.2.2.1++[(false,0,7)])) 0=some (.inl ()):=hin
  simp only [f3L1,hd,if_true,idx_nat hat,bind_some',h4]
  rw [chk_true (lenLIM hq1),chk_true (lenLIM hq2),hin,bind_some']
  simp only [caseT,w64_succ (show k≤4611686018427387904 by omega)]
theorem f14_ok {l:List Int} (hl:l.length≤9223372036854775807) {k:Nat} (hk:k≤l.length):∃ (b:List Int) (k':Nat),f14 9 l k=some (b,(k':Int))∧b.length≤9∧k'≤l.length:=by
  obtain⟨v,k1,e1,b1,c1⟩:=next_ok hl (n:=10) (by decide) (by decide) hk
  have e1:f25 (w64 (9+1)) l (k:Int)=some ((v:Int),(k1:Int)):=e1
  obtain⟨x,h1,k2,b,hb,hk2,rfl⟩:=loopF_inv (tb:=f14L0 l) (Q:=fun x=>∃ (k2:Nat) (b:List Int),b.length≤9∧k2≤l.length∧x=((k2:Int),b)) (Inv:=fun i s=>∃ (k2:Nat) (b:List Int),b.length+i≤9∧k2≤l.length∧s=((i:Int),(k2:Int),b)) (fun i s ⟨k2,b,g1,g2,g3⟩=>by
    subst g3
    obtain⟨w,k3,e2,b2,c2⟩:=next_ok hl (n:=256) (by decide) (by decide) g2
    have e2:f25 256 l (k2:Int)=some ((w:Int),(k3:Int)):=e2
    have hd:decide (0<((i+1:Nat):Int))=true:=decide_eq_true (by omega)
    have hq:(b++[IntKind.u8.wrap (w:Int)]).length≤4294967296:=by simp;omega
    refine⟨_,?_,k3,b++[IntKind.u8.wrap (w:Int)],by simp;omega,c2,rfl⟩
    simp only [f14L0,hd,if_true,e2,bind_some']
    rw [chk_true (lenLIM hq),wsub1 (x:=i+1) (by omega) (by omega)]
    rfl) (fun s ⟨k2,b,g1,g2,g3⟩=>by
    subst g3
    exact⟨_,by simp only [f14L0];rfl,k2,b,by omega,g2,rfl⟩) (n:=v) (by omega) (s:=((v:Int),(k1:Int),[])) ⟨k1,[],by simp;omega,c1,rfl⟩
  exact⟨b,k2,by simp only [f14,e1,bind_some',h1],hb,hk2⟩
end Go.Top
namespace Go.Top
open Go Go.Vc
theorem loop0 (C:Ctx) {l:List Int} (hl:l.length≤9223372036854775807) {dst:MAC} (hdst:dst.length=6) {i:Nat} {p:Port} (hp:(allP (owners C.d))[i]? = some p) {c:Int} {y5:List Link} {z:(List Bool)×(List Bool)} {k:Nat} (hk:k≤l.length) :
    ∃ x,loopF (f3L0 l dst hd6 C.x2 (ruleT p c) y5) (0,(k:Int),z)=some x∧∃ u,x = .inl u:=by
  have hlen:=C.rules.len
  have hf:=C.made.few
  have e4:C.x2.2.2.2.1=lan4:=C.made.lan4
  have e6:C.x2.2.2.2.2.1=lan6:=C.made.lan6
  obtain⟨hpi,hi14⟩:=C.made.isPort hp
  refine loopF_inv2 (tb:=f3L0 l dst hd6 C.x2 (ruleT p c) y5) (Q:=fun x=>∃ u,x = .inl u) (Inv:=fun n s=>∃ (j k:Nat),s=((j:Int),(k:Int),z)∧k≤l.length∧n+j=C.r.length) (fun n s ⟨j,k,g1,g2,g3⟩ => ?_) (n:=C.r.length) (by omega) ⟨0,k,rfl,hk,by omega⟩
  subst g1
  by_cases hj:j<C.r.length
  · have hat:=List.getElem?_eq_getElem (show j<(allP (owners C.d)).length by omega)
    generalize (allP (owners C.d))[j]=q at hat
    obtain⟨c',hc'⟩:=C.rules.get j q hat
    have hc':C.r[j]? = some (ruleT q c'):=hc'
    obtain⟨hqj,hj14⟩:=C.made.isPort hat
    have hlt:decide ((j:Int)<(C.x2.1.length:Int))=true:=lt_len hc'
    have hix:idx C.x2.1 (j:Int)=some (ruleT q c'):=idx_nat hc'
    have hs:w64 ((j:Int)+1)=((j+1:Nat):Int):=w64_succ (by omega)
    by_cases hij:j=i
    · subst hij
      rw [hp] at hat;cases hat
      have he:((ruleT p c').1==(ruleT p c).1)=true:=beq_self_eq_true p.1
      refine .inr ⟨(((j+1:Nat):Int),(k:Int),z),n-1,by omega,?_,j+1,k,rfl,g2,by omega⟩
      simp only [f3L0,hlt,if_true,hix,bind_some',he,hs]
    · have hne:((ruleT q c').1==(ruleT p c).1)=false:=beq_eq_false_iff_ne.2 (C.made.row.id_ne hat hp hij)
      have hp0:idx (ruleT p c).2.2.2.1 0=some (macT (100+(i+1))):=(mac0_of hpi).2
      have hq0:idx (ruleT q c').2.2.2.1 0=some (macT (100+(j+1))):=(mac0_of hqj).2
      have h1:=loop1 C hp hat (fun e=>hij e.symm) (y5:=y5) (p6:=((j:Int),(k:Int),z)) hdst (c:=c) (c':=c')
      obtain⟨R0,n0,r1,r2,r3,_⟩:=rule_mac0 C (k:=0) (by omega)
      have r1':idx C.x2.1 0=some R0:=idx_nat (k:=0) r1
      obtain⟨dat,k',hb,hbl,hk'⟩:=f14_ok hl g2
      obtain⟨v,dl,bb,h12,hv,_,hv1⟩:=dropped_of C.made.row C.rules hp (b:=C.b) (p4:=lan4) (p6:=lan6) (f:=(4,y5,z.1,z.2)) (k:=(3,2,3)) (fr:=(macT (100+n0),macT (100+(j+1)),0,2048,dat)) (m0:=hd6) (v:=fun x=>x=1) fun c=>⟨1,guard_src hpi hi14 (by omega) hj14 (by omega),by decide,rfl⟩
      have h12':f12 C.x2.1 C.x2.2.1 lan4 lan6 (4,y5,z.1,z.2) (3,2,3) (ruleT p c).1 (macT (100+n0),macT (100+(j+1)),0,2048,dat) hd6=some (v,dl,bb):=h12
      have hv2:(v != 1)=false:=by rw [hv1];rfl
      refine .inr ⟨(((j+1:Nat):Int),(k':Int),z),n-1,by omega,?_,j+1,k',rfl,hk',by omega⟩
      simp only [f3L0,hlt,if_true,hix,bind_some',hne,Bool.false_eq_true,if_false,hp0,hq0,h1,caseT,f13,r1',r3,hb,e4,e6,h12',hv2,hs]
  · have hj2:j=C.r.length:=by omega
    have hd:decide ((j:Int)<(C.x2.1.length:Int))=false:=decide_eq_false (by show ¬ (j:Int)<(C.r.length:Int);omega)
    exact .inl ⟨.inl (),by simp only [f3L0,hd,Bool.false_eq_true,if_false],(),rfl⟩
theorem f3_ok {l:List Int} (hl:l.length≤9223372036854775807) (i:Int) {dst:MAC} (hdst:dst.length=6) (m:Int):f3 l i dst m hd6 pw deBr=some true:=by
  obtain⟨k,d,hk,hm,h8⟩:=f8_ok hl
  obtain⟨r,b,h7,hr,_⟩:=f7_ok hm m
  have hf:=hm.few
  have hlen:=hr.len
  have h1:1≤(allP (owners d)).length:=by
    have h2:=hf.2.1
    match ho:owners d,h2 with
    | q :: ms,_ =>
      have:=(hm.own q (by rw [ho];exact List.mem_cons_self ..)).few.1
      simp only [allP,List.map_cons,List.flatten_cons,List.length_append]
      omega
  obtain⟨v,h9,hv⟩:=f9_ok i (n:=r.length) (by omega) (by omega)
  have hat:=List.getElem?_eq_getElem (show v<(allP (owners d)).length by omega)
  generalize (allP (owners d))[v]=p at hat
  obtain⟨c,hc⟩:=hr.get v p hat
  have hc:r[v]? = some (ruleT p c):=hc
  obtain⟨x,hx,u,rfl⟩:=loop0 ⟨d,r,b,hm,hr⟩ hl hdst hat (c:=c) (y5:=[(0,1,1),(1,2,1),(2,3,1)]) (z:=(List.replicate (Int.toNat 3) false,List.replicate (Int.toNat 4) false)) hk
  have hx:loopF (f3L0 l dst hd6 (r,b,true,d) (ruleT p c) [(0,1,1),(1,2,1),(2,3,1)]) (0,(k:Int),List.replicate (Int.toNat 3) false,List.replicate (Int.toNat 4) false)=some (.inl u):=hx
  have k1:((ge0T 3&&decide ((3:Int)≤3))&&fitIT 3)=true:=rfl
  have k2:((ge0T 4&&decide ((4:Int)≤4))&&fitIT 4)=true:=rfl
  simp only [f3,show f6 l=some () from rfl,bind_some',h8,h7,Bool.not_true,Bool.false_eq_true,if_false,h9,idx_nat hc,hx,caseT,awake_ok m]
  rfl
end Go.Top
