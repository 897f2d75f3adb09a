/-
 The abstract-state logic: append of a string's bytes; a new row out of another one's cells.
-/
import Derived.Test.YtjnopnpkfhopbaaGreatDoorALPart2
import Derived.RangeFuncRecord
set_option linter.unusedSimpArgs false
set_option linter.unusedVariables false
set_option maxRecDepth 8000
set_option maxHeartbeats 8000000
namespace Go.AL
open Go Go.RowKit Classical
variable [GL]
set_option linter.unusedSectionVars false
def isRow:AV→Bool
 | .row .. =>true
 |_=>false
def isVoid:AV→Bool
 | .lit (.slice _ 0 0)=>true
 |_=>false
def rowAV (σ:Store) (sz:Nat):AV→Option (Nat×List AV)
 | .row q k=>match σ q with
  |some ds=>if k*sz≤ds.length then some (k,ds.take (k*sz)) else none
  |none=>none
 |_=>none
def aAppendRow (P:Program) (t:TypeId) (s x:Operand) (A:Slots) (σ:Store) (K:AV→Slots→Store→Prop):Prop:=
 match tElem P t with
 |some e=>match tSize P e,tBytes P e with
  |some sz,some bt=>match rowAV σ sz (evalA A x) with
   |some (k,ds)=>isVoid (evalA A s)=true∧0<sz∧tZeroSize P e=some sz∧0<k∧k≤maxLen∧k*bt≤140737488355328∧(∀c∈ds,c.plain1=true)∧∀p:Nat,σ p=none→K (.row p k) A (σ.upd p ds)
   |none=>False
  |_,_=>False
 |none=>False
theorem aAppendRow_sound {P:Program} {D:Nat→Prop} {n:Nat} {G:Ghost} {A:Slots} {σ:Store} {a:Act} {w:World} (h:Rel D n G A σ a w) {o:Oper} {K:AV→Slots→Store→Prop} {t:TypeId} {s x:Operand}
  (ho:o.op= .call {callee:= .builtin .append,args:= #[s,x],argTypes:= #[t,t]}) (hK:aAppendRow P t s x A σ K):Does P D n G a w o K:=by
 unfold aAppendRow at hK
 split at hK
 case h_2=>exact hK.elim
 rename_i e he
 split at hK
 case h_2=>exact hK.elim
 rename_i sz bt hsz hbt
 split at hK
 case h_2=>exact hK.elim
 rename_i k ds hrow
 obtain ⟨hvoid,hpos,hzs0,hk0,hmax,hbytes,hplain,hk⟩:=hK
 obtain ⟨z,hz,hzs⟩:∃z,tZero P e=some z∧z.cells.size=sz:=by
  unfold tZeroSize at hzs0
  cases hq:tZero P e with
  |none=>simp[hq] at hzs0
  |some z=>exact ⟨z,rfl,by simpa[hq] using hzs0⟩
 have ht:=under_elem he
 obtain ⟨i,hi,hisz⟩:∃i,P.info? e=some i∧i.size=sz:=by
  unfold tSize at hsz;cases hq:P.info? e with
  |none=>simp[hq] at hsz
  |some i=>exact ⟨i,rfl,by simpa[hq] using hsz⟩
 have hibt:i.bytes=bt:=by simpa[tBytes,hi] using hbt
 have hiz:i.zero=some z:=by simpa[tZero,hi] using hz
 subst hisz hibt
 have hsv:=h.eval s
 have hxv:=h.eval x
 generalize hA:evalA A x=xa at hrow hxv
 unfold rowAV at hrow
 split at hrow
 case h_2=>cases hrow
 rename_i q k'
 split at hrow
 case h_2=>cases hrow
 rename_i ds' hq
 split at hrow
 case isFalse=>cases hrow
 rename_i hle
 simp only[Option.some.injEq,Prod.mk.injEq] at hrow
 obtain ⟨rfl,rfl⟩:=hrow
 generalize hB:evalA A s=sa at hvoid hsv
 unfold isVoid at hvoid
 split at hvoid
 case h_2=>cases hvoid
 rename_i base
 have run_of:∀ {r:Value} {w':World},(Builtin.append_ #[t,t] o.type #[a.eval s,a.eval x]).run P w= .ok r w'→(execOp a.eval o).run P w= .ok (.value r) w':=by
  intro r w' hr
  simp[execOp,ho,resolve,invoke,builtin,hr]
 generalize a.eval s=sv at*
 generalize a.eval x=xv at*
 cases hsv
 cases hxv with
 |row _ _ cap2 hc2=>
 obtain ⟨hD,hS,hF,cur,e',hg,hcl,hcells⟩:=h.world.obj q ds' hq
 generalize hus2:(cur.toList.take (k'*i.size))=us2
 have husl:us2.length=k'*i.size:=by rw[←hus2];simp;omega
 have hnews:∀(j:Nat) (u:Value),us2[j]?=some u→w.cell? ((⟨q,0,none⟩:Addr).add j)=some u:=fun j u hu=>by
  rw[add_addr,cell_of_row w q (0+j) cur e' (0,0) hg,Nat.zero_add]
  have hj:=(List.getElem?_eq_some_iff.1 hu).1
  rw[husl] at hj
  rw[←hus2,List.getElem?_take_of_lt hj] at hu
  simpa using hu
 have hbig:(k':Int)≤9223372036854775807:=by unfold maxLen at hmax;omega
 have hDn:=h.fresh _ (Nat.le_refl w.heap.size)
 have hn:σ w.heap.size=none:=by
  cases hs:σ w.heap.size with
  |none=>rfl
  |some x=>obtain ⟨_,_,_,c,e',h4,_⟩:=h.world.obj _ x hs;have:=(Array.getElem?_eq_some_iff.1 h4).1;omega
 have hge:=grownCap_ge w k' 0 e
 have fin:∀arr:Array Value,arr=us2.toArray++Builtin.zeroCells z.cells (grownCap w k' 0 e-k')→
   (Builtin.append_ #[t,t] o.type #[.slice base 0 0, .slice (some ⟨q,0,none⟩) k' cap2]).run P w= .ok (.slice (some ⟨w.heap.size,0,none⟩) k' (grownCap w k' 0 e)) (w.drew.alloc (.cells arr e))→Does P D n G a w o K:=by
  intro arr harr hrun
  have hasz:k'*i.size≤arr.size:=by rw[harr];simp;omega
  refine ⟨.row w.heap.size k',_,A,_,G,_,hk _ hn, .inl (run_of hrun),h.drew.step (fun _ _ _ h=>h) (fun _ _ _ _ _ _ h=>h) ?_ (by simp), .row _ _ _ hge,OwnAt.of_plain rfl,Ext.drew.trans (Ext.alloc h.drew.fresh G _)⟩
  refine (h.drew.world.newObj hDn arr e (ds'.take (k'*i.size)) (by simp;omega) fun j c u hcj huj=> ?_)
  have hj:j<k'*i.size:=by
   have:=(List.getElem?_eq_some_iff.1 hcj).1
   simp at this;omega
  have hc1:=hplain c (List.mem_of_getElem? hcj)
  rw[List.getElem?_take_of_lt hj] at hcj
  have hu:cur[j]?=some u:=by
   rw[harr,Array.getElem?_append_left (by simp;omega)] at huj
   have huj':us2[j]?=some u:=by simpa using huj
   rw[←hus2,List.getElem?_take_of_lt hj] at huj'
   simpa using huj'
  obtain ⟨q1,q2,_⟩:=hcells j c u hcj hu
  exact ⟨q1,q2,Own1.of_plain hc1⟩
 cases base with
 |none=>
  have hr:=run_append_nil (P:=P) w t o.type e i z ht hi hiz ⟨q,0,none⟩ k' cap2 us2 husl hnews hk0 hbig (by omega)
  exact fin _ rfl hr
 |some b=>
  have hr:=run_append_grow (P:=P) w t o.type e i z ht hi hiz b 0 0 [] (by simp) (by simp) ⟨q,0,none⟩ k' cap2 us2 husl hnews (by omega) (by simpa using hbig) (growslice_fits (by omega) (by simpa using hbytes))
  simp only[Nat.zero_add] at hr
  exact fin _ (by simp) hr
def bytesV (s:ByteArray):List AV:=s.data.toList.map fun b=> .lit (.int .u8 b.toNat)
def strA (P:Program) (t:TypeId) (v:AV):Option ByteArray:=
 match v with
 | .lit (.string s)=>if tStr P t=true then some s else none
 |_=>none
def aAppendStr (P:Program) (t t':TypeId) (s x:Operand) (A:Slots) (σ:Store) (K:AV→Slots→Store→Prop):Prop:=
 match tElem P t with
 |some e=>match tSize P e,tBytes P e with
  |some sz,some by_=>match strA P t' (evalA A x) with
   |some b=>takeA A s fun v A'=>match conv P t v with
    | .list own sz' vs=>sz'=sz∧sz=1∧tZeroSize P e=some sz∧own=true∧vs.length+b.size≤maxLen∧(vs.length+b.size)*by_≤140737488355328∧K (.list true sz (vs++bytesV b)) A' σ
    |_=>False
   |none=>False
  |_,_=>False
 |none=>False
def bytesU (s:ByteArray):List Value:=s.data.toList.map fun b=> .int .u8 b.toNat
theorem bytesU_length (s:ByteArray):(bytesU s).length=s.size:=by simp[bytesU]
theorem bytesV_length (s:ByteArray):(bytesV s).length=s.size:=by simp[bytesV]
theorem flat_bytesV (s:ByteArray):flat (bytesV s)=bytesV s:=by
 unfold flat bytesV
 rw[List.flatMap_map]
 generalize s.data.toList=l
 induction l with
 |nil=>rfl
 |cons b l ih=>simp only[List.flatMap_cons,List.map_cons,ih];rfl
theorem cells_bytesV (F:Frz) (s:ByteArray):CellsR (VR F) (flat (bytesV s)) (bytesU s):=by
 rw[flat_bytesV]
 refine ⟨by rw[bytesV_length,bytesU_length],fun j u hu=> ?_,fun j c u hc hu=> ?_⟩
 ·simp only[bytesU,List.getElem?_map] at hu
  cases hq:s.data.toList[j]? with
  |none=>simp[hq] at hu
  |some b=>simp only[hq,Option.map_some,Option.some.injEq] at hu;subst hu;rfl
 ·simp only[bytesU,bytesV,List.getElem?_map] at hu hc
  cases hq:s.data.toList[j]? with
  |none=>simp[hq] at hu
  |some b=>simp only[hq,Option.map_some,Option.some.injEq] at hu hc;subst hu hc;exact .lit _
theorem run_firstCells_string {P:Program} (w:World) (size:Nat) (s:ByteArray):(Builtin.firstCells size s.size (.string s)).run P w= .ok (bytesU s).toArray w:=by
 simp[Builtin.firstCells,bytesU]
 apply Array.ext'
 simp
theorem aAppendStr_sound {P:Program} {D:Nat→Prop} {n:Nat} {G:Ghost} {A:Slots} {σ:Store} {a:Act} {w:World} (h:Rel D n G A σ a w) {o:Oper} {K:AV→Slots→Store→Prop} {t t':TypeId} {s x:Operand}
  (ho:o.op= .call {callee:= .builtin .append,args:= #[s,x],argTypes:= #[t,t']}) (hK:aAppendStr P t t' s x A σ K):Does P D n G a w o K:=by
 unfold aAppendStr at hK
 split at hK
 case h_2=>exact hK.elim
 rename_i e he
 split at hK
 case h_2=>exact hK.elim
 rename_i sz bt hsz hbt
 split at hK
 case h_2=>exact hK.elim
 rename_i b hws
 obtain ⟨v,A',G1,hK1,hR1,hv,hown,hext,hF⟩:=h.takes hK
 have hsrc:=h.eval x
 have hv':VR G1.F (conv P t v) (a.eval s):=conv_VR hv
 have hown':OwnAt G1 D .acc (conv P t v) (a.eval s):=conv_own hv hown
 generalize conv P t v=v2 at hK1 hv' hown'
 split at hK1
 case h_2=>exact hK1.elim
 rename_i own sz' vs
 obtain ⟨rfl,hone1,hzs0,rfl,hmax,hbytes,hk⟩:=hK1
 generalize hA:evalA A x=xa at hws hsrc
 unfold strA at hws
 split at hws
 case h_2=>cases hws
 rename_i b'
 split at hws
 case isFalse=>cases hws
 rename_i hst
 simp only[Option.some.injEq] at hws;subst hws
 have htu:=under_str hst
 obtain ⟨z,hz,hzs⟩:∃z,tZero P e=some z∧z.cells.size=sz':=by
  unfold tZeroSize at hzs0
  cases hq:tZero P e with
  |none=>simp[hq] at hzs0
  |some z=>exact ⟨z,rfl,by simpa[hq] using hzs0⟩
 have ht:=under_elem he
 obtain ⟨i,hi,hisz⟩:∃i,P.info? e=some i∧i.size=sz':=by
  unfold tSize at hsz;cases hq:P.info? e with
  |none=>simp[hq] at hsz
  |some i=>exact ⟨i,rfl,by simpa[hq] using hsz⟩
 have hibt:i.bytes=bt:=by simpa[tBytes,hi] using hbt
 have hiz:i.zero=some z:=by simpa[tZero,hi] using hz
 have run_of:∀ {r:Value} {w':World},(Builtin.append_ #[t,t'] o.type #[a.eval s,a.eval x]).run P w= .ok r w'→(execOp a.eval o).run P w= .ok (.value r) w':=by
  intro r w' hr
  simp[execOp,ho,resolve,invoke,builtin,hr]
 generalize a.eval s=sv at*
 generalize a.eval x=xv at*
 cases hsrc
 subst hisz hibt
 have hc2:=cells_bytesV G1.F b'
 have hus2:(bytesU b').length=(bytesV b').length*i.size:=by rw[bytesU_length,bytesV_length,hone1,Nat.mul_one]
 have hw2:∀v∈bytesV b',v.cells.length=i.size:=fun v hv=>by
  simp only[bytesV,List.mem_map] at hv
  obtain ⟨_,_,rfl⟩:=hv
  rw[hone1];rfl
 have hbl:=bytesV_length b'
 rw[←hbl] at hmax hbytes
 have hone:∀u∈bytesU b',u.oneCell'=true:=fun u hu=>by obtain ⟨j,hj⟩:=List.getElem?_of_mem hu;exact hc2.2.1 j u hj
 have hff:∀w:World,(Builtin.firstCells i.size b'.size (.string b')).run P w= .ok (bytesU b').toArray w:=fun w=>run_firstCells_string w i.size b'
 generalize hUS:bytesU b'=us2 at*
 generalize hWS:bytesV b'=ws at*
 have hbig:∀ {k:Nat},k≤maxLen→(k:Int)≤9223372036854775807:=fun hk=>by unfold maxLen at hk;omega
 have grown:∀(olds:List Value) (old:Nat) (run:(Builtin.append_ #[t,t'] o.type #[sv, .string b']).run P w=
       .ok (.slice (some ⟨w.heap.size,0,none⟩) (vs.length+ws.length) (grownCap w (vs.length+ws.length) old e)) (w.drew.alloc (.cells (olds.toArray++us2.toArray++Builtin.zeroCells z.cells (grownCap w (vs.length+ws.length) old e-(vs.length+ws.length))) e))),
   (∀v∈vs,v.cells.length=i.size)→CellsR (VR G1.F) (flat vs) olds→Does P D n G a w o K:=by
  intro olds old run hwv hco
  have hge:=grownCap_ge w (vs.length+ws.length) old e
  have hcm:=grownCap_le_maxLen w (vs.length+ws.length) old e hmax
  have hol:olds.length=vs.length*i.size:=by rw[←flat_length hwv];exact hco.1.symm
  have hwall:∀v∈vs++ws,v.cells.length=i.size:=fun v hv=>by
   rcases List.mem_append.1 hv with h|h
   ·exact hwv v h
   ·exact hw2 v h
  have hflat:flat (vs++ws)=flat vs++flat ws:=by simp[flat]
  obtain ⟨G',q1,q2,q3,q4,_⟩:=newList hR1.drew (olds.toArray++us2.toArray++Builtin.zeroCells z.cells (grownCap w (vs.length+ws.length) old e-(vs.length+ws.length))) e i.size (vs++ws) (grownCap w (vs.length+ws.length) old e)
   (by simp only[Array.size_append,List.size_toArray,size_zeroCells,hzs,hol,hus2,←Nat.add_mul];congr 1;omega) (by simpa using hge) hcm hwall (olds++us2) (by rw[hflat];exact hco.append hc2)
   (fun j u hu=>by
    have hlt:=(List.getElem?_eq_some_iff.1 hu).1
    rw[Array.getElem?_append_left (by simpa using hlt)]
    simpa using hu)
  rw[List.length_append] at q2 q3
  exact ⟨_,_,A',σ,G',_,hk, .inl (run_of run),q1,q2,q3,hext.trans (Ext.drew.trans q4)⟩
 cases hv' with
 |nil=>
  simp only[List.length_nil,Nat.zero_add] at grown hmax hbytes
  by_cases h0:ws.length=0
  ·have hws0:ws=[]:=List.eq_nil_of_length_eq_zero h0
   subst hws0
   have hu0:us2=[]:=List.eq_nil_of_length_eq_zero (by simpa using hus2)
   subst hu0
   have hb0:b'.size=0:=by rw[←hbl];rfl
   refine ⟨_, .slice none 0 0,A',σ,G1,w,hk, .inl (run_of ?_),hR1, .nil ..,by simp[OwnAt,Own1],hext⟩
   have hf0:=hff w
   rw[hb0] at hf0
   simp[Builtin.append_,run_underlying ht,run_underlying htu,sizeOf,typeInfo,hi,Builtin.lenOf,hb0,hf0]
  ·have hlt:0<b'.size:=by omega
   have hn0:b'.size≠0:=by omega
   have h63':¬(9223372036854775807<(b'.size:Int)):=by have:=hbig hmax;omega
   have h48':¬(281474976710656<Builtin.nextslicecap b'.size 0*i.bytes):=by rw[nextslicecap_zero hlt,←hbl];omega
   refine grown [] 0 ?_ (by simp) ⟨rfl,by simp,by simp⟩
   rw[hbl]
   simp[Builtin.append_,run_underlying ht,run_underlying htu,sizeOf,typeInfo,zeroValue,hi,hiz,Builtin.lenOf,hn0,h63',h48',Question.forced,run_firstCells_none,hff,newRow,grownCap]
 |list _ _ _ g off m cap us hn hc hw hl hF1 hv1=>
  rcases hown' with hcap0|hown'
  ·subst hcap0
   subst hn
   have hvs0:vs=[]:=List.eq_nil_of_length_eq_zero (by omega)
   subst hvs0
   have hus0:us=[]:=List.eq_nil_of_length_eq_zero (by simpa[flat] using hl)
   subst hus0
   simp only[List.length_nil,Nat.zero_add] at grown hmax hbytes
   by_cases h0:ws.length=0
   ·have hws0:ws=[]:=List.eq_nil_of_length_eq_zero h0
    subst hws0
    have hu0:us2=[]:=List.eq_nil_of_length_eq_zero (by simpa using hus2)
    subst hu0
    have hb0:b'.size=0:=by rw[←hbl];rfl
    refine ⟨_, .slice (some ⟨g,off,none⟩) 0 0,A',σ,G1,w,hk, .inl (run_of ?_),hR1, .list true _ [] g off 0 0 [] rfl (Nat.le_refl _) (by simp) (by simp[flat]) (by simp) (by simp), .inl rfl,hext⟩
    have hf0:=hff w
    rw[hb0] at hf0
    simp[Builtin.append_,run_underlying ht,run_underlying htu,sizeOf,typeInfo,hi,Builtin.lenOf,hb0,hf0,storeCells]
   ·have hlt:0<b'.size:=by omega
    have hn0:b'.size≠0:=by omega
    have h63':¬(9223372036854775807<(b'.size:Int)):=by have:=hbig hmax;omega
    have h48':¬(281474976710656<Builtin.nextslicecap b'.size 0*i.bytes):=by rw[nextslicecap_zero hlt,←hbl];omega
    have hfo:=run_firstCells_some (P:=P) w.drew i.size 0 ⟨g,off,none⟩ 0 0 [] (by simp) (by simp)
    refine grown [] 0 ?_ (by simp) ⟨rfl,by simp,by simp⟩
    rw[hbl]
    simp[Builtin.append_,run_underlying ht,run_underlying htu,sizeOf,typeInfo,zeroValue,hi,hiz,Builtin.lenOf,hn0,h63',h48',Question.forced,hff,hfo,newRow,grownCap]
  obtain ⟨hDg,zz,hSg,hcapz,hcapm⟩:=hown'
  have hfl:=flat_length hw
  obtain ⟨hσg,⟨cur,e',⟨fz,hg,hfz⟩,hcz⟩,hnone⟩:=hR1.world.own _ _ _ _ hSg
  dsimp only at hDg hSg hcapz hcapm hσg hg hnone
  have hco:CellsR (VR G1.F) (flat vs) us:=⟨hl.symm,fun j u hu=>(hF1 j u hu).2,hv1⟩
  have hcells:∀(j:Nat) (u:Value),us[j]?=some u→cur[off+j]?=some u:=fun j u hu=>by
   obtain ⟨c',e'',fz',q1,q2⟩:=hR1.world.frz _ _ _ (hF1 j u hu).1
   rw[hg] at q1;simp only[Option.some.injEq,Obj.cells.injEq] at q1;obtain ⟨rfl,_,_⟩:=q1;exact q2
  subst hn
  by_cases hroom:vs.length+ws.length≤cap
  ·-- in place
   have hmul:(vs.length+ws.length)*i.size≤cap*i.size:=Nat.mul_le_mul_right _ hroom
   rw[Nat.add_mul] at hmul
   have hfit:off+vs.length*i.size+us2.length≤cur.size:=by omega
   have hst:=storeCells_fz P g (off+vs.length*i.size) e' fz us2 0 cur w hfz hg (by simpa using hfit) hone
   simp only[Nat.add_zero] at hst
   rw[toList_setRow hfit] at hst
   generalize hw':w.setRow g (setRange cur.toList (off+vs.length*i.size) us2).toArray=w' at hst
   have hroom':vs.length+b'.size≤cap:=by rw[←hbl];exact hroom
   have hrun:(Builtin.append_ #[t,t'] o.type #[.slice (some ⟨g,off,none⟩) vs.length cap, .string b']).run P w= .ok (.slice (some ⟨g,off,none⟩) (vs.length+ws.length) cap) w':=by
    rw[hbl]
    simp[Builtin.append_,run_underlying ht,run_underlying htu,sizeOf,typeInfo,hi,Builtin.lenOf,hroom',hff,add_addr,hst]
   have hg':w'.heap[g]?=some (.cells (setRange cur.toList (off+vs.length*i.size) us2).toArray e' fz):=by subst hw';exact setRow_heap w g cur _ e' _ hg
   have hoth:∀k,k≠g→w'.heap[k]?=w.heap[k]?:=fun k hk=>by subst hw';exact setRow_other w g k _ hk
   have hW1:=hR1.world.write hSg hfz hg hg' (by simp[setRange_length]) (fun j hj=>by
    have:(setRange cur.toList (off+vs.length*i.size) us2)[j]?=cur.toList[j]?:=by
     rw[setRange_get _ _ _ _ (by simpa using hfit),if_neg (by omega)]
    simpa using this) hoth
   have hW2:=hW1.freeze hSg (by simp) hg' us2 (fun j u hu=>by
    have hj:=(List.getElem?_eq_some_iff.1 hu).1
    have:(setRange cur.toList (off+vs.length*i.size) us2)[off+vs.length*i.size+j]?=some u:=by
     rw[setRange_get _ _ _ _ (by simpa using hfit),if_pos (by omega)]
     simpa using hu
    simpa using this) (.acc 0)
   generalize hG':Ghost.setS ⟨Frz.put G1.F g (off+vs.length*i.size) us2,G1.S⟩ g (off+vs.length*i.size+us2.length,zz, .acc 0)=G' at hW2
   have hGF:G'.F=Frz.put G1.F g (off+vs.length*i.size) us2:=by subst hG';rfl
   have hmono:∀k j u,G1.F k j=some u→G'.F k j=some u:=fun k j u hu=>by rw[hGF];exact Frz.put_mono hnone k j u hu
   have hGS:∀k,k≠g→G'.S k=G1.S k:=fun k hk=>by subst hG';simp[Ghost.setS,hk]
   have hGS0:G'.S g=some (off+vs.length*i.size+us2.length,zz, .acc 0):=by subst hG';simp[Ghost.setS]
   have hwall:∀v∈vs++ws,v.cells.length=i.size:=fun v hv=>by
    rcases List.mem_append.1 hv with h|h
    ·exact hw v h
    ·exact hw2 v h
   have hflat:flat (vs++ws)=flat vs++flat ws:=by simp[flat]
   have hcc:CellsR (VR G'.F) (flat (vs++ws)) (us++us2):=by rw[hflat];exact (hco.append hc2).mono fun c u h=>h.mono hmono
   have husl:us.length=vs.length*i.size:=by omega
   refine ⟨_,_,A',σ,G',w',hk, .inl (run_of hrun),hR1.step hmono (fun k m z' q j hd hk=> ?_) hW2 (by subst hw';simp), ?_,Or.inr ⟨hDg,zz, ?_,hcapz,hcapm⟩,hext.trans ⟨by subst hw';rfl,by subst hw';rfl,by subst hw';rfl,by subst hw';simp,hmono,fun k hk=> ?_⟩⟩
   ·have:k≠g:=fun e=>by subst e;rw[hSg] at hk;simp at hk
    rw[hGS k this];exact hk
   ·refine .list true i.size (vs++ws) g off _ cap (us++us2) (by simp) hroom hwall hcc.1.symm (fun j u hu=>⟨?_,hcc.2.1 j u hu⟩) hcc.2.2
    rw[List.getElem?_append] at hu
    split at hu
    ·exact hmono _ _ _ (hF1 j u hu).1
    ·rename_i hj
     rw[hGF]
     have:=Frz.put_at G1.F g (off+vs.length*i.size) us2 _ u hu
     rwa[show off+vs.length*i.size+(j-us.length)=off+j from by omega] at this
   ·dsimp only;rw[hGS0,Nat.add_mul,hus2];simp[Nat.add_assoc]
   ·have hne:k≠g:=fun e=>hk (e▸hDg)
    exact ⟨hoth k hne,hGS k hne,by rw[hGF];exact Frz.put_other hne⟩
  ·-- a new row:what was is copied
   have holds:∀(j:Nat) (u:Value),us[j]?=some u→w.cell? ((⟨g,off,none⟩:Addr).add j)=some u:=fun j u hu=>by
    rw[add_addr,cell_of_row w g (off+j) cur e' fz hg];exact hcells j u hu
   have hlt:¬(vs.length+b'.size≤cap):=by rw[←hbl];exact hroom
   have h63':¬(9223372036854775807<((vs.length:Int)+(b'.size:Int))):=by have:=hbig hmax;omega
   have h48':¬(281474976710656<Builtin.nextslicecap (vs.length+b'.size) cap*i.bytes):=by
    have:=growslice_fits (need:=vs.length+b'.size) (old:=cap) (bytes:=i.bytes) (by omega) (by rw[←hbl];exact hbytes)
    omega
   have hfo:=run_firstCells_some (P:=P) w.drew i.size vs.length ⟨g,off,none⟩ vs.length cap us (by omega) (by simpa using holds)
   refine grown us cap ?_ hw hco
   rw[hbl]
   simp[Builtin.append_,run_underlying ht,run_underlying htu,sizeOf,typeInfo,zeroValue,hi,hiz,Builtin.lenOf,hlt,h63',h48',Question.forced,hff,hfo,newRow,grownCap]
   congr 2
   apply Array.ext'
   simp[List.append_assoc]
end Go.AL
namespace Go.AL
open Go Go.RowKit Classical
variable [GL]
set_option linter.unusedSectionVars false
theorem WR.newOth {D:Nat→Prop} {G:Ghost} {σ:Store} {w:World} (h:WR D G σ w) (hD:D w.heap.size) {cs:List AV} {ob:Obj} (ho:OthR G.F cs ob):WR D G (σ.put w.heap.size cs) (w.alloc ob):=by
 have hold:∀(k:Nat) (o:Obj),w.heap[k]?=some o→(w.alloc ob).heap[k]?=some o:=fun k o hk=>by
  rw[Below.heap_alloc w _ k (Array.getElem?_eq_some_iff.1 hk).1];exact hk
 refine ⟨fun g i u hu=> ?_,fun g n z ρ hg=> ?_,fun o cs' hcs=> ?_,h.laid,fun g cs' hg=> ?_,varKeep h fun k ob' hi hk=>by
  have hne:k≠w.heap.size:=by have:=(Array.getElem?_eq_some_iff.1 hk).1;omega
  exact ⟨hold _ _ hk,by rw[put_nat];exact hi.1,by rw[put_mkey,if_neg hne];exact hi.2.1,hi.2.2⟩⟩
 ·obtain ⟨c,e',fz,h1,h2⟩:=h.frz g i u hu
  exact ⟨c,e',fz,hold _ _ h1,h2⟩
 ·obtain ⟨h1,⟨c,e',h2,h3⟩,h4⟩:=h.own g n z ρ hg
  exact ⟨by rw[put_nat];exact h1,⟨c,e',h2.keep fun _ q=>hold _ _ q,h3⟩,h4⟩
 ·rw[put_nat] at hcs
  obtain ⟨h1,h2,h3,c,e',h4,h5,h6⟩:=h.obj o cs' hcs
  exact ⟨h1,h2,h3,c,e',hold _ _ h4,h5,h6⟩
 ·rw[put_mkey] at hg
  split at hg
  ·rename_i hg';subst hg'
   obtain rfl:=Option.some.inj hg
   have hi:=h.fresh_idle
   exact ⟨hD,⟨by rw[put_nat];exact hi.1,hi.2⟩,ob,heap_alloc_new w _,ho⟩
  ·obtain ⟨q1,qi,ob',q2,q3⟩:=h.oth g cs' hg
   exact ⟨q1,⟨by rw[put_nat];exact qi.1,qi.2⟩,ob',hold _ _ q2,q3⟩
theorem WR.setOth {D:Nat→Prop} {G:Ghost} {σ:Store} {w:World} (h:WR D G σ w) {g:Nat} {cs cs':List AV} {ob':Obj} (hg:σ (mkey g)=some cs) (ho:OthR G.F cs' ob'):WR D G (σ.put g cs') (w.putObj g ob'):=by
 obtain ⟨p1,pi,ob,p2,p3⟩:=h.oth g cs hg
 have hne:∀ {k:Nat} {x:Obj},k≠g→w.heap[k]?=some x→(w.putObj g ob').heap[k]?=some x:=fun {k x} hkg hk=>by
  rw[World.putObj_heap_other hkg];exact hk
 refine ⟨fun k i u hu=> ?_,fun k n z π hk=> ?_,fun o cs hcs=> ?_,h.laid,fun k cs2 hk=> ?_,varKeep h fun k ob2 hi hk=>by
  have hkg:k≠g:=fun e=>by subst e;have:=hi.2.1;rw[hg] at this;cases this
  exact ⟨hne hkg hk,by rw[put_nat];exact hi.1,by rw[put_mkey,if_neg hkg];exact hi.2.1,hi.2.2⟩⟩
 ·obtain ⟨c,e,f,q1,q2⟩:=h.frz k i u hu
  exact ⟨c,e,f,hne (fun e=>by subst e;rw[pi.2.2 i] at hu;cases hu) q1,q2⟩
 ·obtain ⟨q1,⟨c,e,q2,q3⟩,q4⟩:=h.own k n z π hk
  exact ⟨by rw[put_nat];exact q1,⟨c,e,q2.keep fun _ q=>hne (fun e=>by subst e;rw[pi.2.1] at hk;cases hk) q,q3⟩,q4⟩
 ·rw[put_nat] at hcs
  obtain ⟨q1,q2,q3,c,e,q4,q5,q6⟩:=h.obj o cs hcs
  exact ⟨q1,q2,q3,c,e,hne (fun e=>by subst e;rw[pi.1] at hcs;cases hcs) q4,q5,q6⟩
 ·rw[put_mkey] at hk
  split at hk
  ·rename_i hk';subst hk'
   obtain rfl:=Option.some.inj hk
   exact ⟨p1,⟨by rw[put_nat];exact pi.1,pi.2⟩,ob',World.putObj_heap_same (Array.getElem?_eq_some_iff.1 p2).1,ho⟩
  ·rename_i hk'
   obtain ⟨q1,qi,ob2,q2,q3⟩:=h.oth k cs2 hk
   exact ⟨q1,⟨by rw[put_nat];exact qi.1,qi.2⟩,ob2,by rw[World.putObj_heap_other hk'];exact q2,q3⟩
theorem Ext.setOth {D:Nat→Prop} (G:Ghost) (w:World) {K:Nat} (o':Obj) (hD:D K):Ext D G w G (w.putObj K o'):=
 ⟨rfl,rfl,rfl,by simp,fun _ _ _ h=>h,fun k hk=>⟨World.putObj_heap_other (fun e=>hk (e▸hD)),rfl,rfl⟩⟩
theorem run_getOth {P:Program} {w:World} {l:Nat} {o:Obj} (h:w.heap[l]?=some o) (ho:Obj.oth o):(getObj l).run P w= .ok o w:=by
 cases o<;>simp[getObj,Sem.run,h]<;>exact ho.elim
theorem run_setOth {P:Program} {w:World} {l:Nat} {o:Obj} (o':Obj) (h:w.heap[l]?=some o) (ho:Obj.oth o):(setObj l o').run P w= .ok () (w.putObj l o'):=by
 cases o<;>simp[setObj,Sem.run,h,World.putObj]<;>exact ho.elim
def tMap (P:Program) (t:TypeId):Option (TypeId×TypeId):=(P.underlying t).bind fun| .map k e=>some (k,e)|_=>none
def tKind (P:Program) (t:TypeId):Option TypeDesc:=(P.underlying t).bind fun| .int k=>some (.int k)| .string=>some .string|_=>none
theorem under_map {P:Program} {t k e:TypeId} (h:tMap P t=some (k,e)):P.underlying t=some (.map k e):=by
 unfold tMap at h
 cases hu:P.underlying t with
 |none=>simp[hu] at h
 |some d=>cases d<;>simp_all
theorem under_kind {P:Program} {t:TypeId} {d:TypeDesc} (h:tKind P t=some d):P.underlying t=some d∧((∃k,d= .int k)∨d= .string):=by
 unfold tKind at h
 cases hu:P.underlying t with
 |none=>simp[hu] at h
 |some d'=>cases d'<;>simp[hu] at h<;>subst h<;>simp
theorem run_checkKey {P:Program} {t:TypeId} {d:TypeDesc} (h:tKind P t=some d) (b:Bool) (v:Value) (w:World):(Instr.checkKey b 10000 t v).run P w= .ok () w:=by
 obtain ⟨h1,h2⟩:=under_kind h
 unfold Instr.checkKey
 rcases h2 with ⟨k,rfl⟩|rfl<;>simp[Sem.run_bind,run_underlying h1]
def findA (d:TypeDesc) (k:Value):List (Value×AV)→Nat→Option (Option (Nat×AV))
 |[],_=>some none
 |(x,v)::l,i=>match Instr.sameNow d k x with
  |some true=>some (some (i,v))
  |some false=>findA d k l (i+1)
  |none=>none
def kvsIn:List AV→Option (List (Value×AV))
 |[]=>some []
 | .lit k::v::l=>(kvsIn l).map ((k,v)::·)
 |_=>none
def kvsOf:List AV→Option (List (Value×AV))
 | .top::l=>kvsIn l
 |_=>none
@[simp] theorem kvsOf_mapA (kvs:List (Value×AV)):kvsOf (mapA kvs)=some kvs:=by
 unfold kvsOf mapA
 show kvsIn _=_
 induction kvs with
 |nil=>rfl
 |cons x l ih=>simp only[List.flatMap_cons,List.cons_append,List.nil_append,kvsIn,ih];rfl
def iterOf:List AV→Option (ByteArray×Nat)
 |[.lit (.string s), .lit (.int .i64 n)]=>some (s,n.toNat)
 |_=>none
@[simp] theorem iterOf_iterA (s:ByteArray) (pos:Nat):iterOf (iterA s pos)=some (s,pos):=by simp[iterOf,iterA]
theorem OthR.kvs {F:Frz} {cs:List AV} {ob:Obj} (h:OthR F cs ob) {kvs:List (Value×AV)} (hk:kvsOf cs=some kvs):∃es:Array MapEntry,ob= .map es es.size∧kvs.length=es.size∧
  ∀(i:Nat) (kv:Value×AV) (e:MapEntry),kvs[i]?=some kv→es[i]?=some e→e.key=kv.1∧VR F kv.2 e.val∧e.born=i:=by
 cases h with
 |iter s pos=>simp[kvsOf,iterA] at hk
 |miter m n seen h=>simp[kvsOf,miterA] at hk
 |raw T cur=>simp[kvsOf,rawA] at hk
 |map kvs' es clock hl hc h=>
  rw[kvsOf_mapA] at hk
  obtain rfl:=Option.some.inj hk
  subst hc
  exact ⟨es,rfl,hl,h⟩
theorem OthR.iters {F:Frz} {cs:List AV} {ob:Obj} (h:OthR F cs ob) {s:ByteArray} {pos:Nat} (hk:iterOf cs=some (s,pos)):ob= .stringIter s pos:=by
 cases h with
 |iter s' pos'=>rw[iterOf_iterA] at hk;obtain ⟨rfl,rfl⟩:=Prod.mk.inj (Option.some.inj hk);rfl
 |map kvs' es clock hl hc h=>simp[iterOf,mapA] at hk
 |miter m n seen h=>simp[iterOf,miterA] at hk
 |raw T cur=>simp[iterOf,rawA] at hk
def natsOf:List AV→Option (List Nat)
 |[]=>some []
 | .lit (.int .u64 i)::l=>(natsOf l).map (i.toNat::·)
 |_=>none
def miterOf:List AV→Option (Nat×Nat×List Nat)
 | .tuple []:: .lit (.map (some m)):: .lit (.int .u64 n)::l=>(natsOf l).map fun s=>(m,n.toNat,s)
 |_=>none
@[simp] theorem miterOf_miterA (m n:Nat) (seen:List Nat):miterOf (miterA m n seen)=some (m,n,seen):=by
 have:∀l:List Nat,natsOf (l.map fun (i:Nat)=> .lit (.int .u64 i))=some l:=fun l=>by
  induction l with
  |nil=>rfl
  |cons i l ih=>simp[natsOf,ih]
 simp[miterOf,miterA,this]
theorem OthR.miters {F:Frz} {cs:List AV} {ob:Obj} (h:OthR F cs ob) {m n:Nat} {seen:List Nat} (hk:miterOf cs=some (m,n,seen)):ob= .mapIter (some m) n seen.toArray n∧∀i∈seen,i<n:=by
 cases h with
 |iter s' pos'=>simp[miterOf,iterA] at hk
 |map kvs' es clock hl hc h=>simp[miterOf,mapA] at hk
 |raw T cur=>simp[miterOf,rawA] at hk
 |miter m' n' seen' h=>
  rw[miterOf_miterA] at hk
  obtain ⟨rfl,rfl,rfl⟩:m'=m∧n'=n∧seen'=seen:=by simpa using hk
  exact ⟨rfl,h⟩
theorem run_chooseMap {P:Program} (w:World) (n:Nat) (hn:0<n):∃c w1,c<n∧(choose (.mapNext n)).run P w= .ok c w1∧(w1=w∨w1=w.drew):=by
 have hd:w.drew= {w with drawn:=w.drawn+1} :=rfl
 unfold choose
 by_cases h1:n≤1
 ·refine ⟨0,w,hn, ?_, .inl rfl⟩
  rw[Sem.run,if_pos (by simp[Question.forced,h1])]
  rfl
 ·refine ⟨w.tape w.drawn (.mapNext n) % n,_,Nat.mod_lt _ hn, ?_, .inr rfl⟩
  rw[Sem.run,if_neg (by simp[Question.forced,h1]),hd]
  rfl
theorem findNow_of {F:Frz} {d:TypeDesc} {k:Value} :∀(kvs:List (Value×AV)) (es:List MapEntry) (i:Nat),kvs.length=es.length→
  (∀(j:Nat) (kv:Value×AV) (e:MapEntry),kvs[j]?=some kv→es[j]?=some e→e.key=kv.1∧VR F kv.2 e.val)→
  ∀ {r:Option (Nat×AV)},findA d k kvs i=some r→(r=none∧Instr.findNow d k es i=some none)∨∃j v u e,r=some (i+j,v)∧Instr.findNow d k es i=some (some (i+j,u))∧VR F v u∧es[j]?=some e∧Instr.sameNow d k e.key=some true
 |[],[],i,_,_,r,h=>by simp only[findA,Option.some.injEq] at h;subst h;exact .inl ⟨rfl,rfl⟩
 |[],_::_,_,h,_,_,_=>by simp at h
 |_::_,[],_,h,_,_,_=>by simp at h
 |(x,v)::kvs,e::es,i,hl,hr,r,h=>by
  obtain ⟨h1,h2⟩:=hr 0 _ _ rfl rfl
  dsimp only at h1 h2
  simp only[findA] at h
  simp only[Instr.findNow,h1]
  split at h
  ·rename_i hs
   simp only[Option.some.injEq] at h;subst h
   simp only[hs]
   exact .inr ⟨0,v,e.val,e,rfl,rfl,h2,rfl,by rw[h1];exact hs⟩
  ·rename_i hs
   simp only[hs]
   rcases findNow_of kvs es (i+1) (by simpa using hl) (fun j kv e' q1 q2=>hr (j+1) kv e' (by simpa using q1) (by simpa using q2)) h with ⟨e1,e2⟩|⟨j,v',u,e',q1,q2,q3,q4,q5⟩
   ·exact .inl ⟨e1,e2⟩
   ·exact .inr ⟨j+1,v',u,e',by rw[q1,show i+1+j=i+(j+1) by omega],by rw[q2,show i+1+j=i+(j+1) by omega],q3,by simpa using q4,q5⟩
  ·cases h
theorem sameBits_of {d:TypeDesc} {a b:Value} (h:Instr.sameNow d a b=some true):Instr.sameBits 10000 b a=true:=by
 unfold Instr.sameNow at h
 split at h
 ·split at h
  ·rename_i hk;subst hk
   simp only[Option.some.injEq,beq_iff_eq] at h;subst h
   simp[Instr.sameBits]
  ·cases h
 ·rename_i a b
  obtain ⟨a⟩:=a
  obtain ⟨b⟩:=b
  have h':(a==b)=true:=Option.some.inj h
  have:a=b:=by simpa using h'
  subst this
  exact h'
 ·simp only[Option.some.injEq,beq_iff_eq] at h;subst h
  simp[Instr.sameBits]
 ·cases h
def setA (d:TypeDesc) (kvs:List (Value×AV)) (k:Value) (v:AV):Option (List (Value×AV)):=
 match findA d k kvs 0 with
 |some (some (i,_))=>some (kvs.set i (k,v))
 |some none=>some (kvs++[(k,v)])
 |none=>none
def zeroV (P:Program) (e:TypeId):Option AV:=(tZero P e).bind fun z=>if z.oneCell'=true then some (conv P e (.lit z)) else none
def aOth (P:Program) (op:Op) (ev:Operand→AV) (σ:Store) (K:AV→Store→Prop):Prop:=
 match op with
 | .makeMap t r=>match tMap P t,r.map ev with
  |some _,none=>∀g:Nat,σ (mkey g)=none→K (.lit (.map (some g))) (σ.put g (mapA []))
  |some _,some (.lit (.int _ _))=>∀g:Nat,σ (mkey g)=none→K (.lit (.map (some g))) (σ.put g (mapA []))
  |_,_=>False
 | .mapUpdate t m k x=>match tMap P t,ev m,ev k with
  |some (kt,_), .lit (.map (some g)), .lit kv=>match tKind P kt,(σ (mkey g)).bind kvsOf with
   |some d,some kvs=>match setA d kvs kv (ev x).share with
    |some kvs'=>K .top (σ.put g (mapA kvs'))
    |none=>False
   |_,_=>False
  |_,_,_=>False
 | .lookup t m k ok=>match tMap P t,ev m,ev k with
  |some (kt,et), .lit (.map (some g)), .lit kv=>match tKind P kt,(σ (mkey g)).bind kvsOf with
   |some d,some kvs=>match findA d kv kvs 0 with
    |some (some (_,v))=>K (if ok=true then .tuple [v.drop1, .lit (.bool true)] else v.share) σ
    |some none=>match zeroV P et with
     |some z=>K (if ok=true then .tuple [z.drop1, .lit (.bool false)] else z.share) σ
     |none=>False
    |none=>False
   |_,_=>False
  |_,_,_=>False
 | .range t x=>if tStr P t=true then (match ev x with
   | .lit (.string s)=>∀g:Nat,σ (mkey g)=none→K (.lit (.pointer (some ⟨g,0,none⟩))) (σ.put g (iterA s 0))
   |_=>False)
  else match tMap P t,ev x with
  |some _, .lit (.map (some m))=>match (σ (mkey m)).bind kvsOf with
   |some kvs=>∀g:Nat,σ (mkey g)=none→K (.lit (.pointer (some ⟨g,0,none⟩))) (σ.put g (miterA m kvs.length []))
   |none=>False
  |_,_=>False
 | .next it false=>match ev it with
  | .lit (.pointer (some ⟨g,0,none⟩))=>match (σ (mkey g)).bind miterOf with
   |some (m,n,seen)=>match (σ (mkey m)).bind kvsOf with
    |some kvs=>kvs.length=n∧(∀(i:Nat) (kv:Value×AV),kvs[i]?=some kv→i∉seen→K (.tuple [.lit (.bool true), .lit kv.1,kv.2.drop1]) (σ.put g (miterA m n (seen++[i]))))∧((∀i,i<n→i∈seen)→K (.tuple [.lit (.bool false)]) σ)
    |none=>False
   |none=>False
  |_=>False
 | .entry it=>match ev it with
  | .lit (.pointer (some ⟨g,0,none⟩))=>match (σ (mkey g)).bind miterOf with
   |some (m,n,seen)=>match (σ (mkey m)).bind kvsOf with
    |some kvs=>kvs.length=n∧(match seen.getLast?.bind (fun i=>kvs[i]?) with
     |some kv=>K (.tuple [.lit kv.1,kv.2.drop1]) σ
     |none=>False)
    |none=>False
   |none=>False
  |_=>False
 | .next it true=>match ev it with
  | .lit (.pointer (some ⟨g,0,none⟩))=>match (σ (mkey g)).bind iterOf with
   |some (s,pos)=>if pos<s.size then K (.tuple [.lit (.bool true), .lit (.int .i64 pos), .lit (.int .i32 (Utf8.decode s pos).1)]) (σ.put g (iterA s (pos+(Utf8.decode s pos).2))) else K (.tuple [.lit (.bool false)]) σ
   |none=>False
  |_=>False
 |_=>False
theorem aOth_mono {P:Program} {op:Op} {ev:Operand→AV} {σ:Store} {K K':AV→Store→Prop} (h:aOth P op ev σ K) (hk:∀v σ',K v σ'→K' v σ'):aOth P op ev σ K':=by
 unfold aOth at*
 (repeat' split at h)<;>first
  |exact False.elim h
  |exact fun g hg=>hk _ _ (h g hg)
  |(rw[if_pos (by assumption)];exact fun g hg=>hk _ _ (h g hg))
  |(rw[if_neg (by assumption)];exact fun g hg=>hk _ _ (h g hg))
  |exact hk _ _ h
  |(rename_i hc;rw[if_pos hc];exact hk _ _ h)
  |(rename_i hc;rw[if_neg hc];exact hk _ _ h)
  |(rename_i hc;rw[if_pos hc];exact False.elim h)
  |exact ⟨h.1,fun i kv h1 h2=>hk _ _ (h.2.1 i kv h1 h2),fun h1=>hk _ _ (h.2.2 h1)⟩
  |exact ⟨h.1,hk _ _ h.2⟩
  |exact h.2.elim
theorem aOth_congr {P:Program} {op:Op} {ev ev':Operand→AV} {σ:Store} {K:AV→Store→Prop} (he:∀y∈op.operands.toList,ev y=ev' y) (h:aOth P op ev σ K):aOth P op ev' σ K:=by
 cases op with
 |makeMap t r=>
  cases r with
  |none=>exact h
  |some y=>simp only[aOth,Option.map_some,he y (by simp[Op.operands])] at h⊢;exact h
 |mapUpdate t m k x=>simp only[aOth,he m (by simp[Op.operands]),he k (by simp[Op.operands]),he x (by simp[Op.operands])] at h⊢;exact h
 |lookup t m k ok=>simp only[aOth,he m (by simp[Op.operands]),he k (by simp[Op.operands])] at h⊢;exact h
 |range t x=>simp only[aOth,he x (by simp[Op.operands])] at h⊢;exact h
 |next it b=>
  cases b with
  |true=>simp only[aOth,he it (by simp[Op.operands])] at h⊢;exact h
  |false=>simp only[aOth,he it (by simp[Op.operands])] at h⊢;exact h
 |entry it=>simp only[aOth,he it (by simp[Op.operands])] at h⊢;exact h
 |_=>exact h
theorem newOth_does {P:Program} {D:Nat→Prop} {n:Nat} {G:Ghost} {A:Slots} {σ:Store} {a:Act} {w:World} (h:Rel D n G A σ a w) {o:Oper} {K:AV→Slots→Store→Prop} {cs:List AV} {ob:Obj}
  (hc:OthR G.F cs ob) (f:Nat→Value) (hK:∀g:Nat,σ (mkey g)=none→K (.lit (f g)) A (σ.put g cs)) (hr:(execOp a.eval o).run P w= .ok (.value (f w.heap.size)) (w.alloc ob)):Does P D n G a w o K:=by
 have hD:=h.fresh _ (Nat.le_refl w.heap.size)
 have hn:σ (mkey w.heap.size)=none:=by
  cases hs:σ (mkey w.heap.size) with
  |none=>rfl
  |some x=>obtain ⟨_,_,ob',h4,_⟩:=h.world.oth _ x hs;have:=(Array.getElem?_eq_some_iff.1 h4).1;omega
 exact ⟨_,_,_,_,G,_,hK _ hn, .inl hr,h.step (fun _ _ _ h=>h) (fun _ _ _ _ _ _ h=>h) (h.world.newOth hD hc) (by simp), .lit _,OwnAt.of_plain rfl,Ext.alloc h.fresh G _⟩
theorem setOth_does {P:Program} {D:Nat→Prop} {n:Nat} {G:Ghost} {A:Slots} {σ:Store} {a:Act} {w:World} (h:Rel D n G A σ a w) {o:Oper} {K:AV→Slots→Store→Prop} {g:Nat} {cs cs':List AV} {ob':Obj}
  (hg:σ (mkey g)=some cs) (hc:OthR G.F cs' ob') {v:AV} {cv:Value} (hv:VR G.F v cv) (hp:v.plain=true) (hK:K v A (σ.put g cs')) (hr:(execOp a.eval o).run P w= .ok (.value cv) (w.putObj g ob')∨((execOp a.eval o).run P w= .ok .skip (w.putObj g ob')∧cv=undef)):Does P D n G a w o K:=
 ⟨_,_,_,_,G,_,hK,hr,h.step (fun _ _ _ h=>h) (fun _ _ _ _ _ _ h=>h) (h.world.setOth hg hc) (by simp),hv,OwnAt.of_plain hp,Ext.setOth G w ob' (h.world.oth g cs hg).1⟩
theorem same_does {P:Program} {D:Nat→Prop} {n:Nat} {G:Ghost} {A:Slots} {σ:Store} {a:Act} {w:World} (h:Rel D n G A σ a w) {o:Oper} {K:AV→Slots→Store→Prop} {v:AV} {cv:Value} (hv:VR G.F v cv) (hp:v.plain=true) (hK:K v A σ)
  (hr:(execOp a.eval o).run P w= .ok (.value cv) w):Does P D n G a w o K:=⟨_,_,_,_,G,_,hK, .inl hr,h,hv,OwnAt.of_plain hp,Ext.refl ..⟩
theorem zeroV_sound {P:Program} {e:TypeId} {z:AV} (h:zeroV P e=some z) (F:Frz):∃zv,tZero P e=some zv∧VR F z zv:=by
 unfold zeroV at h
 obtain ⟨zv,h1,h2⟩:=Option.bind_eq_some_iff.1 h
 split at h2
 ·obtain rfl:=Option.some.inj h2
  exact ⟨zv,h1,conv_VR (.lit zv)⟩
 ·cases h2
theorem VR.lit_eq {F:Frz} {v x:Value} {y:AV} (h:VR F y x) (hy:y= .lit v):x=v:=by subst hy;cases h;rfl
theorem drop1_plain (v:AV):v.drop1.plain1=true:=by cases v<;>rfl
theorem share_plain0 (v:AV):v.share.plain=true:=by
 cases v with
 |agg cs=>simp only[AV.share,AV.plain,List.all_eq_true,List.mem_map];rintro x ⟨y,_,rfl⟩;exact drop1_plain y
 |tuple cs=>simp only[AV.share,AV.plain,List.all_eq_true,List.mem_map];rintro x ⟨y,_,rfl⟩;exact drop1_plain y
 |_=>rfl
theorem pair_plain (v:AV) (u:Value):(AV.tuple [v.drop1, .lit u]).plain=true:=by
 show ([v.drop1, .lit u].all AV.plain1)=true
 rw[List.all_cons,drop1_plain];rfl
theorem run_findKey {P:Program} {t:TypeId} {d:TypeDesc} {k:Value} {es:List MapEntry} {r:Option (Nat×Value)} (h:P.underlying t=some d) (hf:Instr.findNow d k es 0=some r) (w:World):(Instr.findKey t k es).run P w= .ok r w:=by
 simp[Instr.findKey,Sem.run_bind,run_underlying h,hf]
theorem next_does {P:Program} {D:Nat→Prop} {n:Nat} {G:Ghost} {A:Slots} {σ:Store} {a:Act} {w:World} (h:Rel D n G A σ a w) {o:Oper} {K:AV→Slots→Store→Prop} {it:Operand} {g m c:Nat} {seen:List Nat} {kvs:List (Value×AV)}
  (ho:o.op= .next it false) (hit:evalA A it= .lit (.pointer (some ⟨g,0,none⟩))) (hio:(σ (mkey g)).bind miterOf=some (m,c,seen)) (hkvs:(σ (mkey m)).bind kvsOf=some kvs) (hlen:kvs.length=c)
  (hstep:∀(i:Nat) (kv:Value×AV),kvs[i]?=some kv→i∉seen→K (.tuple [.lit (.bool true), .lit kv.1,kv.2.drop1]) A (σ.put g (miterA m c (seen++[i])))) (hover:(∀i,i<c→i∈seen)→K (.tuple [.lit (.bool false)]) A σ):Does P D n G a w o K:=by
 obtain ⟨cs,hg,hcs⟩:=Option.bind_eq_some_iff.1 hio
 obtain ⟨hDg,hidle,ob,hob,hoth⟩:=h.world.oth g cs hg
 obtain ⟨rfl,hseen⟩:=hoth.miters hcs
 obtain ⟨cm,hgm,hcm⟩:=Option.bind_eq_some_iff.1 hkvs
 obtain ⟨hDm,hidlem,obm,hobm,hothm⟩:=h.world.oth m cm hgm
 obtain ⟨es,rfl,hl,hes⟩:=hothm.kvs hcm
 have hiv:=(h.eval it).lit_eq hit
 have r1:=run_getOth (P:=P) hob trivial
 have r2:=run_getOth (P:=P) hobm trivial
 have hborn:∀(i:Nat) (hi:i<es.size),es[i].born=i:=fun i hi=>(hes i (kvs[i]'(by omega)) es[i] (by simp[show i<kvs.length by omega]) (by simp[hi])).2.2
 have hb2:∀e∈es,e.born<c:=fun e he=>by
  obtain ⟨i,hi,rfl⟩:=Array.mem_iff_getElem.1 he
  rw[hborn i hi];omega
 have hcond:(!seen.toArray.isEmpty&& !es.isEmpty&&es.all fun e=>decide (e.born≥c))=false:=by
  by_cases h0:es.size=0
  ·simp[Array.isEmpty,h0]
  ·have:(es.all fun e=>decide (e.born≥c))=false:=by
    rw[Array.all_eq_false]
    exact ⟨0,by omega,by have:=hborn 0 (by omega);simp[this];omega⟩
   rw[this];simp
 generalize hL:(es.filter fun e=> !seen.toArray.contains e.born)=left
 have hmem:∀e∈left,e∈es∧e.born∉seen:=fun e he=>by
  rw[←hL] at he
  simpa using he
 have hold:left.filter (fun e=>decide (e.born<c))=left:=by
  rw[Array.filter_eq_self]
  intro e he
  simpa using hb2 e (hmem e he).1
 have hnew:left.filter (fun e=>decide (e.born≥c))= #[]:=by
  rw[Array.filter_eq_empty_iff]
  intro e he
  have:=hb2 e (hmem e he).1
  simp;omega
 by_cases hle:left= #[]
 ·have hall:∀i,i<c→i∈seen:=fun i hi=>by
   have hi2:i<es.size:=by omega
   by_cases hin:i∈seen
   ·exact hin
   ·have:es[i]∈left:=by
     rw[←hL]
     simp[hborn i hi2,hin]
    rw[hle] at this
    simp at this
  refine same_does h (v:= .tuple [.lit (.bool false)]) (cv:= .tuple #[.bool false]) (.tuple _ _ rfl fun i c x hc hx=> ?_) rfl (hover hall) ?_
  ·match i with
   |0=>simp at hc hx;subst hc hx;exact .lit _
   |_+1=>simp at hc
  ·have hone:(choose (.mapNext 1)).run P w= .ok 0 w:=by unfold choose;rw[Sem.run,if_pos (by simp[Question.forced])];rfl
   rw[hle] at hL hold hnew
   simp only[execOp,ho,Instr.next,hiv,Sem.run_bind,r1,Result.andThen_ok]
   simp only[Sem.run_bind,r2,Result.andThen_ok,hcond,Bool.false_eq_true,if_false,hL,hold,hnew]
   have hc:((if (#[]:Array MapEntry).isEmpty=true then #[none] else #[])++Array.map some (#[]++ #[]):Array (Option MapEntry))= #[none]:=by simp
   have h1:(#[none]:Array (Option MapEntry)).size=1:=rfl
   rw[hc,h1,hone]
   rfl
 ·have hpos:0<left.size:=by
   rcases Nat.eq_zero_or_pos left.size with h0|h0
   ·exact absurd (Array.eq_empty_of_size_eq_zero h0) hle
   ·exact h0
  obtain ⟨x,w1,hx,hch,hw1⟩:=run_chooseMap (P:=P) w left.size hpos
  obtain ⟨e,he⟩:∃e,left[x]=e:=⟨_,rfl⟩
  have hein:e∈left:=by rw[←he];exact Array.getElem_mem hx
  obtain ⟨hees,hens⟩:=hmem e hein
  obtain ⟨i,hi,rfl⟩:=Array.mem_iff_getElem.1 hees
  have hkvl:i<kvs.length:=by omega
  obtain ⟨q1,q2,q3⟩:=hes i kvs[i] es[i] (by simp[hkvl]) (by simp[hi])
  rw[q3] at hens
  have hk:=hstep i kvs[i] (by simp[hkvl]) hens
  have hD1:Rel D n G A σ a w1:=by rcases hw1 with rfl|rfl;exact h;exact h.drew
  have hE1:Ext D G w G w1:=by rcases hw1 with rfl|rfl;exact Ext.refl ..;exact Ext.drew
  have hh1:w1.heap=w.heap:=by rcases hw1 with rfl|rfl<;>rfl
  have s1:=run_setOth (P:=P) (w:=w1) (l:=g) (o:= .mapIter (some m) c seen.toArray c) (.mapIter (some m) c (seen.toArray.push i) es.size) (by rw[hh1];exact hob) trivial
  have hnot:left.isEmpty=false:=by simpa using hle
  have hcs2:OthR G.F (miterA m c (seen++[i])) (.mapIter (some m) c (seen.toArray.push i) es.size):=by
   have:=OthR.miter (F:=G.F) m c (seen++[i]) (fun j hj=>by
    rcases List.mem_append.1 hj with hj|hj
    ·exact hseen j hj
    ·simp at hj;omega)
   rw[show (seen++[i]).toArray=seen.toArray.push i by simp,←show es.size=c by omega] at this
   rw[←show es.size=c by omega]
   exact this
  refine ⟨_, .tuple #[.bool true,es[i].key,es[i].val],A,_,G,w1.putObj g (.mapIter (some m) c (seen.toArray.push i) es.size),hk, .inl ?_,hD1.step (fun _ _ _ h=>h) (fun _ _ _ _ _ _ h=>h) (hD1.world.setOth hg hcs2) (by simp), ?_,OwnAt.of_plain ?_,hE1.trans (Ext.setOth G w1 _ hDg)⟩
  ·simp only[execOp,ho,Instr.next,hiv,Sem.run_bind,r1,Result.andThen_ok]
   simp only[Sem.run_bind,r2,Result.andThen_ok,hcond,Bool.false_eq_true,if_false,hL,hold,hnew,hnot]
   have hc:(#[]++Array.map some (left++ #[]):Array (Option MapEntry))=left.map some:=by simp
   have h1:(left.map some).size=left.size:=by simp
   have h2:(left.map some)[x]?=some (some es[i]):=by simp[hx,he]
   rw[hc,h1,hch]
   simp only[Result.andThen_ok,h2,Sem.run_bind,q3,s1]
   rfl
  ·refine .tuple _ _ rfl fun j y u hc hu=> ?_
   match j with
   |0=>simp at hc hu;subst hc hu;exact .lit _
   |1=>simp at hc hu;subst hc hu;rw[q1];exact .lit _
   |2=>simp at hc hu;subst hc hu;exact q2.drop1
   |_+3=>simp at hc
  ·show ([.lit (.bool true), .lit kvs[i].1,kvs[i].2.drop1].all AV.plain1)=true
   simp only[List.all_cons,List.all_nil,drop1_plain];rfl
theorem entry_does {P:Program} {D:Nat→Prop} {n:Nat} {G:Ghost} {A:Slots} {σ:Store} {a:Act} {w:World} (h:Rel D n G A σ a w) {o:Oper} {K:AV→Slots→Store→Prop} {it:Operand} {g m c i:Nat} {seen:List Nat} {kvs:List (Value×AV)} {kv:Value×AV}
  (ho:o.op= .entry it) (hit:evalA A it= .lit (.pointer (some ⟨g,0,none⟩))) (hio:(σ (mkey g)).bind miterOf=some (m,c,seen)) (hkvs:(σ (mkey m)).bind kvsOf=some kvs) (hlen:kvs.length=c) (hi:seen.getLast?=some i) (hkv:kvs[i]?=some kv)
  (hK:K (.tuple [.lit kv.1,kv.2.drop1]) A σ):Does P D n G a w o K:=by
 obtain ⟨cs,hg,hcs⟩:=Option.bind_eq_some_iff.1 hio
 obtain ⟨hDg,hidle,ob,hob,hoth⟩:=h.world.oth g cs hg
 obtain ⟨rfl,hseen⟩:=hoth.miters hcs
 obtain ⟨cm,hgm,hcm⟩:=Option.bind_eq_some_iff.1 hkvs
 obtain ⟨hDm,hidlem,obm,hobm,hothm⟩:=h.world.oth m cm hgm
 obtain ⟨es,rfl,hl,hes⟩:=hothm.kvs hcm
 have hiv:=(h.eval it).lit_eq hit
 have r1:=run_getOth (P:=P) hob trivial
 have r2:=run_getOth (P:=P) hobm trivial
 have hik:i<kvs.length:=(List.getElem?_eq_some_iff.1 hkv).1
 have hi2:i<es.size:=by omega
 obtain ⟨q1,q2,q3⟩:=hes i kv es[i] hkv (by simp[hi2])
 have hborn:∀(j:Nat) (hj:j<es.size),es[j].born=j:=fun j hj=>(hes j (kvs[j]'(by omega)) es[j] (by simp[show j<kvs.length by omega]) (by simp[hj])).2.2
 have hfind:es.find? (fun e=>e.born==i)=some es[i]:=by
  rw[Array.find?_eq_some_iff_getElem]
  exact ⟨by simp[q3],i,hi2,rfl,fun j hj=>by simp[hborn j (by omega)];omega⟩
 have hback:seen.toArray.back?=some i:=by simpa using hi
 have hcl:(es.size !=c)=false:=by simp;omega
 refine same_does h (v:= .tuple [.lit kv.1,kv.2.drop1]) (cv:= .tuple #[es[i].key,es[i].val]) (.tuple _ _ rfl fun j y u hc hu=> ?_) ?_ hK ?_
 ·match j with
  |0=>simp at hc hu;subst hc hu;rw[q1];exact .lit _
  |1=>simp at hc hu;subst hc hu;exact q2.drop1
  |_+2=>simp at hc
 ·show ([.lit kv.1,kv.2.drop1].all AV.plain1)=true
  simp only[List.all_cons,List.all_nil,drop1_plain];rfl
 ·simp only[execOp,ho,Instr.entry,hiv,Sem.run_bind,r1,Result.andThen_ok,hback]
  simp only[Sem.run_bind,r2,Result.andThen_ok,hcl,Bool.false_eq_true,if_false,hfind]
  simp
theorem aOth_sound {P:Program} {D:Nat→Prop} {n:Nat} {G:Ghost} {A:Slots} {σ:Store} {a:Act} {w:World} (h:Rel D n G A σ a w) {o:Oper} {K:AV→Slots→Store→Prop}
  (hK:aOth P o.op (evalA A) σ fun v σ'=>K v A σ'):Does P D n G a w o K:=by
 unfold aOth at hK
 split at hK
 ·rename_i t r ho
  have hm0:OthR G.F (mapA []) (.map #[] 0):= .map [] #[] 0 rfl rfl (by simp)
  split at hK
  ·rename_i kt hm hr
   have hr':r=none:=by cases r<;>simp_all
   subst hr'
   refine newOth_does h hm0 (fun g=> .map (some g)) hK ?_
   simp[execOp,ho,Instr.makeMap]
  ·rename_i kt k z hm hr
   cases r with
   |none=>simp at hr
   |some y=>
    have hy:evalA A y= .lit (.int k z):=by simpa using hr
    have hyv:=(h.eval y).lit_eq hy
    refine newOth_does h hm0 (fun g=> .map (some g)) hK ?_
    simp[execOp,ho,Instr.makeMap,hyv,run_underlying (under_map hm),asInt,asIntOf]
  ·exact hK.elim
 ·rename_i t m k x ho
  split at hK
  case h_2=>exact hK.elim
  rename_i kt et g kv hm hem hek
  split at hK
  case h_2=>exact hK.elim
  rename_i d kvs hd hkvs
  split at hK
  case h_2=>exact hK.elim
  rename_i kvs' hset
  obtain ⟨cs,hg,hcs⟩:=Option.bind_eq_some_iff.1 hkvs
  obtain ⟨hDg,hidle,ob,hob,hoth⟩:=h.world.oth g cs hg
  obtain ⟨es,rfl,hl,hes⟩:=hoth.kvs hcs
  have hmv:=(h.eval m).lit_eq hem
  have hkv:=(h.eval k).lit_eq hek
  have hx:=(h.eval x).share
  have hgm:=run_getOth (P:=P) hob trivial
  have hsm:=fun o'=>run_setOth (P:=P) o' hob trivial
  have hck:=run_checkKey hd false kv w
  unfold setA at hset
  cases hf:findA d kv kvs 0 with
  |none=>rw[hf] at hset;cases hset
  |some r=>
   rw[hf] at hset
   rcases findNow_of (F:=G.F) kvs es.toList 0 (by simpa using hl) (fun j kv e q1 q2=>let ⟨a,b,_⟩:=hes j kv e q1 (by simpa using q2);⟨a,b⟩) hf with ⟨rfl,hn⟩|⟨j,v,u,e,rfl,hn,hvu,hej,hsame⟩
   ·obtain rfl:=Option.some.inj hset
    have hfk:=run_findKey (P:=P) (under_kind hd).1 hn w
    refine setOth_does h hg (ob':= .map (es.push {key:=kv,val:=a.eval x,born:=es.size}) (es.size+1)) (.map _ _ _ (by simp[hl]) (by simp) fun i kv' e' q1 q2=> ?_) (.top undef) rfl hK (.inr ⟨?_,rfl⟩)
    ·rw[Array.getElem?_push] at q2
     split at q2
     ·rename_i hi;subst hi
      rw[List.getElem?_append_right (by omega),hl] at q1
      simp at q1 q2;subst q1 q2
      exact ⟨rfl,hx,rfl⟩
     ·rename_i hi
      have:i<es.size:=(Array.getElem?_eq_some_iff.1 q2).1
      rw[List.getElem?_append_left (by omega)] at q1
      exact hes i kv' e' q1 q2
    ·simp[execOp,ho,Instr.mapUpdate,hmv,hkv,Sem.run_bind,run_underlying (under_map hm),hgm,hck,hfk,hsm]
   ·obtain rfl:=Option.some.inj hset
    have hfk:=run_findKey (P:=P) (under_kind hd).1 hn w
    have hej':es[j]?=some e:=by simpa using hej
    have hst:=sameBits_of hsame
    rw[Nat.zero_add] at hfk
    refine setOth_does h hg (ob':= .map (es.modify j fun e=> {e with key:=kv,val:=a.eval x}) es.size) (.map _ _ _ (by simp[hl]) (by simp) fun i kv' e' q1 q2=> ?_) (.top undef) rfl hK (.inr ⟨?_,rfl⟩)
    ·rw[Nat.zero_add,List.getElem?_set] at q1
     rw[Array.getElem?_modify] at q2
     by_cases hij:j=i
     ·subst hij
      rw[if_pos rfl] at q1 q2
      split at q1
      ·rw[hej'] at q2
       simp at q1 q2;subst q1 q2
       obtain ⟨_,_,hb⟩:=hes j (kvs[j]'(by assumption)) e (by simp) hej'
       exact ⟨rfl,hx,hb⟩
      ·cases q1
     ·rw[if_neg hij] at q1 q2
      exact hes i kv' e' q1 q2
    ·simp[execOp,ho,Instr.mapUpdate,hmv,hkv,Sem.run_bind,run_underlying (under_map hm),hgm,hck,hfk,hsm,hej',Instr.keyThatStays,hst]
 ·rename_i t m k ok ho
  split at hK
  case h_2=>exact hK.elim
  rename_i kt et g kv hm hem hek
  split at hK
  case h_2=>exact hK.elim
  rename_i d kvs hd hkvs
  obtain ⟨cs,hg,hcs⟩:=Option.bind_eq_some_iff.1 hkvs
  obtain ⟨hDg,hidle,ob,hob,hoth⟩:=h.world.oth g cs hg
  obtain ⟨es,rfl,hl,hes⟩:=hoth.kvs hcs
  have hmv:=(h.eval m).lit_eq hem
  have hkv:=(h.eval k).lit_eq hek
  have hgm:=run_getOth (P:=P) hob trivial
  have hck:=run_checkKey hd es.isEmpty kv w
  split at hK
  ·rename_i i v hf
   rcases findNow_of (F:=G.F) kvs es.toList 0 (by simpa using hl) (fun j kv e q1 q2=>let ⟨a,b,_⟩:=hes j kv e q1 (by simpa using q2);⟨a,b⟩) hf with ⟨hr,hn⟩|⟨j,v',u,e,hr,hn,hvu,hej,hsame⟩
   ·cases hr
   ·obtain ⟨rfl,rfl⟩:=Prod.mk.inj (Option.some.inj hr)
    have hfk:=run_findKey (P:=P) (under_kind hd).1 hn w
    cases ok with
    |true=>
     refine same_does h (v:= .tuple [v.drop1, .lit (.bool true)]) (cv:= .tuple #[u, .bool true]) (.tuple _ _ rfl fun i c x hc hx=> ?_) (pair_plain ..) hK ?_
     ·match i with
      |0=>simp at hc hx;subst hc hx;exact hvu.drop1
      |1=>simp at hc hx;subst hc hx;exact .lit _
      |_+2=>simp at hc
     ·simp[execOp,ho,Instr.lookup,hmv,hkv,Sem.run_bind,run_underlying (under_map hm),hgm,hck,hfk]
    |false=>
     refine same_does h (v:=v.share) (cv:=u) hvu.share (share_plain0 v) hK ?_
     simp[execOp,ho,Instr.lookup,hmv,hkv,Sem.run_bind,run_underlying (under_map hm),hgm,hck,hfk]
  ·rename_i hf
   split at hK
   case h_2=>exact hK.elim
   rename_i z hz
   obtain ⟨zv,hz1,hz2⟩:=zeroV_sound hz G.F
   rcases findNow_of (F:=G.F) kvs es.toList 0 (by simpa using hl) (fun j kv e q1 q2=>let ⟨a,b,_⟩:=hes j kv e q1 (by simpa using q2);⟨a,b⟩) hf with ⟨hr,hn⟩|⟨j,v',u,e,hr,hn,hvu,hej,hsame⟩
   case inr=>cases hr
   have hfk:=run_findKey (P:=P) (under_kind hd).1 hn w
   cases ok with
   |true=>
    refine same_does h (v:= .tuple [z.drop1, .lit (.bool false)]) (cv:= .tuple #[zv, .bool false]) (.tuple _ _ rfl fun i c x hc hx=> ?_) (pair_plain ..) hK ?_
    ·match i with
     |0=>simp at hc hx;subst hc hx;exact hz2.drop1
     |1=>simp at hc hx;subst hc hx;exact .lit _
     |_+2=>simp at hc
    ·simp[execOp,ho,Instr.lookup,hmv,hkv,Sem.run_bind,run_underlying (under_map hm),hgm,hck,hfk,run_zeroValue hz1]
   |false=>
    refine same_does h (v:=z.share) (cv:=zv) hz2.share (share_plain0 z) hK ?_
    simp[execOp,ho,Instr.lookup,hmv,hkv,Sem.run_bind,run_underlying (under_map hm),hgm,hck,hfk,run_zeroValue hz1]
  ·exact hK.elim
 ·rename_i t x ho
  split at hK
  ·rename_i ht
   split at hK
   case h_2=>exact hK.elim
   rename_i s hx
   have hxv:=(h.eval x).lit_eq hx
   have hu:P.underlying t=some .string:=by
    unfold tStr at ht
    cases hu:P.underlying t with
    |none=>simp[hu] at ht
    |some d=>cases d<;>simp[hu] at ht<;>rfl
   refine newOth_does h (.iter s 0) (fun g=> .pointer (some ⟨g,0,none⟩)) hK ?_
   simp[execOp,ho,Instr.range,hxv,Sem.run_bind,run_underlying hu]
  ·split at hK
   case h_2=>exact hK.elim
   rename_i ke m hm hx
   split at hK
   case h_2=>exact hK.elim
   rename_i kvs hkvs
   obtain ⟨cs,hg,hcs⟩:=Option.bind_eq_some_iff.1 hkvs
   obtain ⟨hDg,hidle,ob,hob,hoth⟩:=h.world.oth m cs hg
   obtain ⟨es,rfl,hl,hes⟩:=hoth.kvs hcs
   have hxv:=(h.eval x).lit_eq hx
   have hgm:=run_getOth (P:=P) hob trivial
   refine newOth_does h (.miter m kvs.length [] (by simp)) (fun g=> .pointer (some ⟨g,0,none⟩)) hK ?_
   simp[execOp,ho,Instr.range,hxv,Sem.run_bind,run_underlying (under_map (k:=ke.1) (e:=ke.2) hm),hgm,hl]
 ·rename_i it ho
  split at hK
  case h_2=>exact hK.elim
  rename_i g hit
  split at hK
  case h_2=>exact hK.elim
  rename_i m n seen hio
  split at hK
  case h_2=>exact hK.elim
  rename_i kvs hkvs
  exact next_does h ho hit hio hkvs hK.1 hK.2.1 hK.2.2
 ·rename_i it ho
  split at hK
  case h_2=>exact hK.elim
  rename_i g hit
  split at hK
  case h_2=>exact hK.elim
  rename_i m n seen hio
  split at hK
  case h_2=>exact hK.elim
  rename_i kvs hkvs
  obtain ⟨hlen,hK⟩:=hK
  split at hK
  case h_2=>exact hK.elim
  rename_i kv hkv
  obtain ⟨i,hi,hkv⟩:=Option.bind_eq_some_iff.1 hkv
  exact entry_does h ho hit hio hkvs hlen hi hkv hK
 ·rename_i it ho
  split at hK
  case h_2=>exact hK.elim
  rename_i g hit
  split at hK
  case h_2=>exact hK.elim
  rename_i s pos hio
  obtain ⟨cs,hg,hcs⟩:=Option.bind_eq_some_iff.1 hio
  obtain ⟨hDg,hidle,ob,hob,hoth⟩:=h.world.oth g cs hg
  obtain rfl:=hoth.iters hcs
  have hiv:=(h.eval it).lit_eq hit
  have hgm:=run_getOth (P:=P) hob trivial
  have hsm:=fun o'=>run_setOth (P:=P) o' hob trivial
  split at hK
  ·rename_i hlt
   refine setOth_does h hg (.iter s (pos+(Utf8.decode s pos).2)) (cv:= .tuple #[.bool true,goInt pos, .int .i32 (Utf8.decode s pos).1]) (.tuple _ _ rfl fun i c x hc hx=> ?_) rfl hK (.inl ?_)
   ·match i with
    |0=>simp at hc hx;subst hc hx;exact .lit _
    |1=>simp at hc hx;subst hc hx;exact .lit _
    |2=>simp at hc hx;subst hc hx;exact .lit _
    |_+3=>simp at hc
   ·simp[execOp,ho,Instr.next,hiv,Sem.run_bind,hgm,hlt,hsm]
  ·rename_i hlt
   refine same_does h (v:= .tuple [.lit (.bool false)]) (cv:= .tuple #[.bool false]) (.tuple _ _ rfl fun i c x hc hx=> ?_) rfl hK ?_
   ·match i with
    |0=>simp at hc hx;subst hc hx;exact .lit _
    |_+1=>simp at hc
   ·simp[execOp,ho,Instr.next,hiv,Sem.run_bind,hgm,hlt]
 ·exact hK.elim
def aMapLen (P:Program) (t:TypeId) (a:AV) (A:Slots) (σ:Store) (K:AV→Slots→Store→Prop):Prop:=
 match tMap P t,a with
 |some _, .lit (.map none)=>K (.lit (.int .i64 0)) A σ
 |some _, .lit (.map (some g))=>match (σ (mkey g)).bind kvsOf with
  |some kvs=>K (.lit (.int .i64 (kvs.length:Nat))) A σ
  |none=>False
 |_,_=>False
theorem aMapLen_mono {P:Program} {t:TypeId} {a:AV} {A:Slots} {σ:Store} {K K':AV→Slots→Store→Prop} (h:aMapLen P t a A σ K) (hk:∀v,K v A σ→K' v A σ):aMapLen P t a A σ K':=by
 unfold aMapLen at*
 (repeat' split at h)<;>first|exact False.elim h|exact hk _ h
theorem aMapLen_sound {P:Program} {D:Nat→Prop} {n:Nat} {G:Ghost} {A:Slots} {σ:Store} {a:Act} {w:World} (h:Rel D n G A σ a w) {o:Oper} {K:AV→Slots→Store→Prop} {x:Operand} {t:TypeId}
  (ho:o.op= .call {callee:= .builtin .len,args:= #[x],argTypes:= #[t]}) (hK:aMapLen P t (evalA A x) A σ K):Does P D n G a w o K:=by
 unfold aMapLen at hK
 split at hK
 ·rename_i ke hm hx
  have hxv:=(h.eval x).lit_eq hx
  refine same_does h (cv:= .int .i64 0) (.lit _) rfl hK ?_
  simp[execOp,ho,hxv,resolve,invoke,builtin,Builtin.len_,Sem.run_bind,run_underlying (under_map (k:=ke.1) (e:=ke.2) hm),goInt]
 ·rename_i ke g hm hx
  split at hK
  case h_2=>exact hK.elim
  rename_i kvs hkvs
  obtain ⟨cs,hg,hcs⟩:=Option.bind_eq_some_iff.1 hkvs
  obtain ⟨hDg,hidle,ob,hob,hoth⟩:=h.world.oth g cs hg
  obtain ⟨es,rfl,hl,hes⟩:=hoth.kvs hcs
  have hxv:=(h.eval x).lit_eq hx
  have hgm:=run_getOth (P:=P) hob trivial
  refine same_does h (cv:= .int .i64 (kvs.length:Nat)) (.lit _) rfl hK ?_
  simp[execOp,ho,hxv,resolve,invoke,builtin,Builtin.len_,Sem.run_bind,run_underlying (under_map (k:=ke.1) (e:=ke.2) hm),hgm,goInt,hl]
 ·exact hK.elim
end Go.AL
