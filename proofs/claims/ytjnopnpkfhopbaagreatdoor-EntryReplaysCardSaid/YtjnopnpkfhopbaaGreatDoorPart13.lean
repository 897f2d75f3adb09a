/-
 One order, out of the scanner.
-/
import Derived.Test.YtjnopnpkfhopbaaGreatDoorPart12
set_option linter.unusedSimpArgs false
set_option linter.unusedVariables false
set_option maxRecDepth 8000
set_option maxHeartbeats 8000000
namespace Go.Proofs.YtjnopnpkfhopbaaGreatDoor
open Go Go.AL
def wfOp (l l':List UInt8) (op:Op):Prop:=(op.kind=0→op.text≠[]∧hasOrd op.text=false)∧(op.kind=8→isOrd op.code=false)∧op.text.length+l'.length≤l.length
def adN:List UInt8→Nat
 |x::y::_=>(decM x y).1
 |_=>0
def adL:List UInt8→List UInt8
 |_::_::tl=>tl
 |_=>[]
def adE:List UInt8→Nat
 |x::y::_=>(decM x y).2
 |_=>2
def raG (tl:List UInt8):Bool:=(adL tl).head?==some 8
def raL (tl:List UInt8):List UInt8:=if raG tl=true then (adL tl).tail else adL tl
def opF:List UInt8→Nat×Op×List UInt8
 |[]=>(0, {},[])
 |c::tl=>
  if isOrd c=false then (0,txtOp (untilO (c::tl)),fromO (c::tl))
  else if c.toNat=8 then (chE tl 0, {kind:=8,code:=tl.headD 0},tl.tail)
  else if c.toNat=17∨c.toNat=18 then (adE tl, {kind:=c.toNat,addr:=adN tl},adL tl)
  else if c.toNat=29 then (if tl=[] then 2 else 0, {kind:=29,fa:=tl.headD 0},tl.tail)
  else if c.toNat=40 then (prE tl 0, {kind:=40,pairs:=prP tl},prL tl)
  else if c.toNat=41∨c.toNat=44 then ((attrF tl).1, {kind:=c.toNat,pairs:=(attrF tl).2},tl.drop (attrN tl))
  else if c.toNat=60 then (chE (raL tl) (adE tl), {kind:=60,addr:=adN tl,graph:=raG tl,code:=(raL tl).headD 0},(raL tl).tail)
  else (0, {kind:=c.toNat},tl)
theorem opF_5 (tl:List UInt8):opF (5::tl)=(0, {kind:=5},tl):=rfl
theorem opF_8 (tl:List UInt8):opF (8::tl)=(chE tl 0, {kind:=8,code:=tl.headD 0},tl.tail):=rfl
theorem opF_17 (tl:List UInt8):opF (17::tl)=(adE tl, {kind:=17,addr:=adN tl},adL tl):=rfl
theorem opF_18 (tl:List UInt8):opF (18::tl)=(adE tl, {kind:=18,addr:=adN tl},adL tl):=rfl
theorem opF_19 (tl:List UInt8):opF (19::tl)=(0, {kind:=19},tl):=rfl
theorem opF_29 (tl:List UInt8):opF (29::tl)=(if tl=[] then 2 else 0, {kind:=29,fa:=tl.headD 0},tl.tail):=rfl
theorem opF_40 (tl:List UInt8):opF (40::tl)=(prE tl 0, {kind:=40,pairs:=prP tl},prL tl):=rfl
theorem opF_41 (tl:List UInt8):opF (41::tl)=((attrF tl).1, {kind:=41,pairs:=(attrF tl).2},tl.drop (attrN tl)):=rfl
theorem opF_44 (tl:List UInt8):opF (44::tl)=((attrF tl).1, {kind:=44,pairs:=(attrF tl).2},tl.drop (attrN tl)):=rfl
theorem opF_60 (tl:List UInt8):opF (60::tl)=(chE (raL tl) (adE tl), {kind:=60,addr:=adN tl,graph:=raG tl,code:=(raL tl).headD 0},(raL tl).tail):=rfl
theorem opF_text (c:UInt8) (tl:List UInt8) (h:isOrd c=false):opF (c::tl)=(0,txtOp (untilO (c::tl)),fromO (c::tl)):=by
 unfold opF;exact if_pos h
structure Step0 (l:List UInt8) (op:Op) (l':List UInt8) (e:Nat):Prop where
 len:l'.length<l.length
 wf:e=0→wfOp l l' op
 text:∀c tl,l=c::tl→isOrd c=false→op=txtOp (untilO l)∧l'=fromO l∧e=0
 sba:∀x y tl,l=17::x::y::tl→op=sbaOp (decM x y).1∧l'=tl∧e=(decM x y).2
structure Step (l:List UInt8) (op:Op) (l':List UInt8) (e:Nat):Prop extends Step0 l op l' e where
 fn:opF l=(e,op,l')
def OpR (b:Nat) (l:List UInt8) (σ:Store) (v:AV) (σ':Store):Prop:=∃op o' l' e,v=opA op∧σ'=σ.upd b (scA o' l' e)∧Step l op l' e
theorem step_text (c:UInt8) (tl:List UInt8) (h:isOrd c=false):Step0 (c::tl) (txtOp (untilO (c::tl))) (fromO (c::tl)) 0:=by
 have hu:untilO (c::tl)=c::untilO tl:=by simp[untilO,h]
 have hf:fromO (c::tl)=fromO tl:=by simp[fromO,h]
 have hl:(fromO tl).length≤tl.length:=(List.dropWhile_sublist _).length_le
 refine ⟨by rw[hf];simp;omega,fun _=>⟨fun _=>⟨by simp[txtOp,hu], ?_⟩,fun hk=>absurd hk (by simp[txtOp]), ?_⟩,fun c' tl' he ho=>⟨rfl,rfl,rfl⟩,fun x y tl' he=> ?_⟩
 ·simp only[txtOp]
  rw[hasOrd,List.any_eq_false]
  intro x hx
  have:=List.all_takeWhile (p:=fun c=> !isOrd c) (l:=c::tl)
  rw[List.all_eq_true] at this
  have:=this x hx
  simpa using this
 ·simp only[txtOp]
  have:=congrArg List.length (List.takeWhile_append_dropWhile (p:=fun c=> !isOrd c) (l:=c::tl))
  rw[List.length_append] at this
  exact Nat.le_of_eq this
 ·obtain ⟨rfl,_⟩:=List.cons.inj he
  exact absurd h (by decide)
theorem step_other {c:UInt8} {tl:List UInt8} {op:Op} {l':List UInt8} {e:Nat} (hc:isOrd c=true) (h17:c.toNat≠17) (hl:l'.length≤tl.length) (hk:e=0→op.kind≠0∧(op.kind=8→isOrd op.code=false)∧op.text=[]):Step0 (c::tl) op l' e:=by
 refine ⟨by simp;omega,fun h=> ?_,fun c' tl' he ho=> ?_,fun x y tl' he=> ?_⟩
 ·obtain ⟨h1,h2,h3⟩:=hk h
  exact ⟨fun h=>absurd h h1,h2,by rw[h3];simp;omega⟩
 ·obtain ⟨rfl,_⟩:=List.cons.inj he
  rw[hc] at ho;cases ho
 ·obtain ⟨rfl,_⟩:=List.cons.inj he
  exact absurd rfl h17
theorem step_sba {tl l':List UInt8} {n:Int} {e:Nat} (h1:l'.length≤tl.length) (h2:∀x y t,tl=x::y::t→n=(decM x y).1∧l'=t∧e=(decM x y).2):Step0 (17::tl) {kind:=17,addr:=n} l' e:=by
 refine ⟨by simp;omega,fun _=>⟨fun h=>absurd h (by simp),fun h=>absurd h (by simp),by simp;omega⟩,fun c t he ho=> ?_,fun x y t he=> ?_⟩
 ·obtain ⟨rfl,_⟩:=List.cons.inj he
  exact absurd ho (by decide)
 ·obtain ⟨_,he⟩:=List.cons.inj he
  obtain ⟨rfl,rfl,rfl⟩:=h2 x y t he
  exact ⟨rfl,rfl,rfl⟩
theorem isOrd_cases {c:UInt8} (h:isOrd c=true):c=5∨c=8∨c=17∨c=18∨c=19∨c=29∨c=40∨c=41∨c=44∨c=60:=
 all_bytes (p:=fun c=>isOrd c=true→c=5∨c=8∨c=17∨c=18∨c=19∨c=29∨c=40∨c=41∨c=44∨c=60) (by decide+kernel) c h
theorem chE_ok {l:List UInt8} {e:Nat} (h:chE l e=0):l≠[]∧isOrd (l.headD 0)=false:=by
 rcases l with _|⟨c,tl⟩
 ·simp only[chE,failE] at h;split at h<;>omega
 ·refine ⟨by simp, ?_⟩
  simp only[chE,failE] at h
  by_cases ho:isOrd c=true
  ·rw[if_pos ho] at h;split at h<;>omega
  ·simpa using ho
theorem adL_le (l:List UInt8):(adL l).length≤l.length:=by
 rcases l with _|⟨x,_|⟨y,tl⟩⟩<;>simp[adL];omega
theorem prL_le (l:List UInt8):(prL l).length≤l.length:=by
 rcases l with _|⟨x,_|⟨y,tl⟩⟩<;>simp[prL];omega
theorem raL_le (l:List UInt8):(raL l).length≤l.length:=by
 have:=adL_le l
 unfold raL;split
 ·rw[List.length_tail];omega
 ·exact this
theorem step_of {l l':List UInt8} {op:Op} {e:Nat} (hne:l≠[]) (h:opF l=(e,op,l')):Step l op l' e:=by
 refine ⟨?_,h⟩
 rcases l with _|⟨c,tl⟩
 ·exact absurd rfl hne
 by_cases hc:isOrd c=false
 ·rw[opF_text c tl hc] at h
  cases h
  exact step_text c tl hc
 ·have hc':isOrd c=true:=by simpa using hc
  rcases isOrd_cases hc' with rfl|rfl|rfl|rfl|rfl|rfl|rfl|rfl|rfl|rfl
  ·rw[opF_5] at h;cases h
   exact step_other hc' (by decide) (Nat.le_refl _) fun _=>⟨by simp,fun h=>absurd h (by simp),rfl⟩
  ·rw[opF_8] at h;cases h
   exact step_other hc' (by decide) (by simp) fun h=>⟨by simp,fun _=>(chE_ok h).2,rfl⟩
  ·rw[opF_17] at h;cases h
   exact step_sba (adL_le _) fun x y t ht=>by subst ht;exact ⟨rfl,rfl,rfl⟩
  ·rw[opF_18] at h;cases h
   exact step_other hc' (by decide) (adL_le _) fun h=>⟨by simp,fun h=>absurd h (by simp),rfl⟩
  ·rw[opF_19] at h;cases h
   exact step_other hc' (by decide) (Nat.le_refl _) fun _=>⟨by simp,fun h=>absurd h (by simp),rfl⟩
  ·rw[opF_29] at h;cases h
   exact step_other hc' (by decide) (by simp) fun _=>⟨by simp,fun h=>absurd h (by simp),rfl⟩
  ·rw[opF_40] at h;cases h
   exact step_other hc' (by decide) (prL_le _) fun _=>⟨by simp,fun h=>absurd h (by simp),rfl⟩
  ·rw[opF_41] at h;cases h
   exact step_other hc' (by decide) (by simp) fun _=>⟨by simp,fun h=>absurd h (by simp),rfl⟩
  ·rw[opF_44] at h;cases h
   exact step_other hc' (by decide) (by simp) fun _=>⟨by simp,fun h=>absurd h (by simp),rfl⟩
  ·rw[opF_60] at h;cases h
   exact step_other hc' (by decide) (by have:=raL_le tl;rw[List.length_tail];omega) fun _=>⟨by simp,fun h=>absurd h (by simp),rfl⟩
theorem op_text (b:Nat) (o:Bool) (c:UInt8) (tl:List UInt8) (σ:Store) (hb:σ b=some (scA o (c::tl) 0)) (hl:(c::tl).length≤1000000000) (hc:isOrd c=false):ACalls Tryz.prog 60 [ptrA b] σ (OpR b (c::tl) σ):=by
 have his:=is_calls c
 have htx:=text_calls b o (c::tl) 0
 rw[hc] at his
 have hb':=hb
 have g0:(bytesA (c::tl))[0]?=some (byteA c):=rfl
 have gl0:0<(bytesA (c::tl)).length:=by simp
 have e0:=(List.getElem_eq_iff gl0).2 g0
 unfold scA at hb
 have hst:=step_of (by simp) (opF_text c tl hc)
 generalize c::tl=l at*
 refine aw st60 pl60 79 Tryz.func60 rfl ?_
 simp
 intro q hq
 have hqb:b≠q:=fun h=>by subst h;rw[hb] at hq;cases hq
 simp at gl0
 simp[hb,hqb,gl0,e0]
 refine callK.of (his _) ?_
 rintro v σ' ⟨rfl,rfl⟩
 simp
 refine callK.of (htx _ (by simp[hqb,hb']) hl) ?_
 rintro v σ' ⟨rfl,rfl⟩
 simp[Ne.symm hqb]
 refine ⟨opA (txtOp (untilO l)), ?_,σ.upd b (scA false (fromO l) 0), ?_,_,_,_,_,rfl,rfl,hst⟩
 ·simp[opA,opC,txtOp,byteA,pairsA]
 ·(intro q;simp only[Store.upd,Store.del];(repeat' split)<;>simp_all)
def AddrR (b:Nat) (l:List UInt8) (σ:Store) (v:AV) (σ':Store):Prop:=∃o',v= .lit (.int .i64 (adN l))∧σ'=σ.upd b (scA o' (adL l) (adE l))
theorem addr_calls (b:Nat) (o:Bool) (l:List UInt8) (σ:Store) (hb:σ b=some (scA o l 0)) (hl:l.length≤1000000000):ACalls Tryz.prog 88 [ptrA b] σ (AddrR b l σ):=by
 by_cases hl2:l.length<2
 ·have e1:adN l=0∧adL l=[]∧adE l=2:=by
   rcases l with _|⟨x,_|⟨y,tl⟩⟩
   ·exact ⟨rfl,rfl,rfl⟩
   ·exact ⟨rfl,rfl,rfl⟩
   ·simp at hl2;omega
  refine (addr_short b o l σ hb hl2).mono ?_
  rintro v σ' ⟨rfl,rfl⟩
  exact ⟨true,by rw[e1.1];rfl,by rw[e1.2.1,e1.2.2]⟩
 ·obtain ⟨x,y,tl,rfl⟩:∃x y tl,l=x::y::tl:=by
   rcases l with _|⟨x,_|⟨y,tl⟩⟩
   ·simp at hl2
   ·simp at hl2
   ·exact ⟨x,y,tl,rfl⟩
  refine (addr_two b o x y tl σ hb (by simp at hl;omega)).mono ?_
  rintro v σ' ⟨rfl,rfl⟩
  exact ⟨_,rfl,rfl⟩
theorem op_5 (b:Nat) (o:Bool) (tl:List UInt8) (σ:Store) (hb:σ b=some (scA o (5::tl) 0)) (hl:(5::tl:List UInt8).length≤1000000000):ACalls Tryz.prog 60 [ptrA b] σ (OpR b (5::tl) σ):=by
 have ho:isOrd 5=true:=by decide
 have his:=is_calls 5
 have htk:=take_ok b o (5::tl) 0 1
 have e1:bytesA ((5::tl:List UInt8).take 1)=[.lit (.int .u8 5)]:=rfl
 have e2:(5::tl:List UInt8).drop 1=tl:=rfl
 have e3:byteA 5= .lit (.int .u8 5):=rfl
 have hw:IntKind.i64.wrap 5=5:=by decide
 rw[e1,e2] at htk
 rw[ho,e3] at his
 have hb':=hb
 have g0:(bytesA (5::tl))[0]?=some (.lit (.int .u8 5)):=rfl
 have gl0:0<(bytesA (5::tl)).length:=by simp
 have e0:=(List.getElem_eq_iff gl0).2 g0
 unfold scA at hb
 have hlen:1≤(5::tl:List UInt8).length:=by simp
 have htl:tl.length≤1000000000:=by simp at hl;omega
 have hst:Step (5::tl) {kind:=5} tl 0:=step_of (by simp) (opF_5 tl)
 generalize hL:(5::tl:List UInt8)=l at*
 refine aw st60 pl60 79 Tryz.func60 rfl ?_
 simp
 intro q hq
 have hqb:b≠q:=fun h=>by subst h;rw[hb] at hq;cases hq
 simp at gl0
 simp[hb,hqb,gl0,e0]
 refine callK.of (his _) ?_
 rintro v σ' ⟨rfl,rfl⟩
 simp
 refine callK.of (htk _ (by simp[hqb,hb']) hlen (by omega)) ?_
 rintro v σ' ⟨rfl,rfl⟩
 simp[Ne.symm hqb,hw]
 intro r hr
 simp only[ite_none] at hr
 obtain ⟨hrb,hrq,hr0⟩:=hr
 simp[Ne.symm hrq]
 refine ⟨opA {kind:=5}, ?_,σ.upd b (scA false tl 0), ?_,_,_,_,_,rfl,rfl,hst⟩
 ·simp[opA,opC,byteA,pairsA,bytesA_nil]
 ·(intro q;simp only[Store.upd,Store.del];(repeat' split)<;>simp_all)
theorem op_19 (b:Nat) (o:Bool) (tl:List UInt8) (σ:Store) (hb:σ b=some (scA o (19::tl) 0)) (hl:(19::tl:List UInt8).length≤1000000000):ACalls Tryz.prog 60 [ptrA b] σ (OpR b (19::tl) σ):=by
 have ho:isOrd 19=true:=by decide
 have his:=is_calls 19
 have htk:=take_ok b o (19::tl) 0 1
 have e1:bytesA ((19::tl:List UInt8).take 1)=[.lit (.int .u8 19)]:=rfl
 have e2:(19::tl:List UInt8).drop 1=tl:=rfl
 have e3:byteA 19= .lit (.int .u8 19):=rfl
 have hw:IntKind.i64.wrap 19=19:=by decide
 rw[e1,e2] at htk
 rw[ho,e3] at his
 have hb':=hb
 have g0:(bytesA (19::tl))[0]?=some (.lit (.int .u8 19)):=rfl
 have gl0:0<(bytesA (19::tl)).length:=by simp
 have e0:=(List.getElem_eq_iff gl0).2 g0
 unfold scA at hb
 have hlen:1≤(19::tl:List UInt8).length:=by simp
 have htl:tl.length≤1000000000:=by simp at hl;omega
 have hst:Step (19::tl) {kind:=19} tl 0:=step_of (by simp) (opF_19 tl)
 generalize hL:(19::tl:List UInt8)=l at*
 refine aw st60 pl60 79 Tryz.func60 rfl ?_
 simp
 intro q hq
 have hqb:b≠q:=fun h=>by subst h;rw[hb] at hq;cases hq
 simp at gl0
 simp[hb,hqb,gl0,e0]
 refine callK.of (his _) ?_
 rintro v σ' ⟨rfl,rfl⟩
 simp
 refine callK.of (htk _ (by simp[hqb,hb']) hlen (by omega)) ?_
 rintro v σ' ⟨rfl,rfl⟩
 simp[Ne.symm hqb,hw]
 intro r hr
 simp only[ite_none] at hr
 obtain ⟨hrb,hrq,hr0⟩:=hr
 simp[Ne.symm hrq]
 refine ⟨opA {kind:=19}, ?_,σ.upd b (scA false tl 0), ?_,_,_,_,_,rfl,rfl,hst⟩
 ·simp[opA,opC,byteA,pairsA,bytesA_nil]
 ·(intro q;simp only[Store.upd,Store.del];(repeat' split)<;>simp_all)
theorem op_8 (b:Nat) (o:Bool) (tl:List UInt8) (σ:Store) (hb:σ b=some (scA o (8::tl) 0)) (hl:(8::tl:List UInt8).length≤1000000000):ACalls Tryz.prog 60 [ptrA b] σ (OpR b (8::tl) σ):=by
 have ho:isOrd 8=true:=by decide
 have his:=is_calls 8
 have htk:=take_ok b o (8::tl) 0 1
 have e1:bytesA ((8::tl:List UInt8).take 1)=[.lit (.int .u8 8)]:=rfl
 have e2:(8::tl:List UInt8).drop 1=tl:=rfl
 have e3:byteA 8= .lit (.int .u8 8):=rfl
 have hw:IntKind.i64.wrap 8=8:=by decide
 rw[e1,e2] at htk
 rw[ho,e3] at his
 have hb':=hb
 have g0:(bytesA (8::tl))[0]?=some (.lit (.int .u8 8)):=rfl
 have gl0:0<(bytesA (8::tl)).length:=by simp
 have e0:=(List.getElem_eq_iff gl0).2 g0
 unfold scA at hb
 have hlen:1≤(8::tl:List UInt8).length:=by simp
 have htl:tl.length≤1000000000:=by simp at hl;omega
 have hch:=char_calls b false tl 0
 have hst:Step (8::tl) {kind:=8,code:=tl.head?.getD 0} tl.tail (chE tl 0):=step_of (by simp) (by rw[opF_8,List.headD_eq_head?_getD])
 generalize hL:(8::tl:List UInt8)=l at*
 refine aw st60 pl60 79 Tryz.func60 rfl ?_
 simp
 intro q hq
 have hqb:b≠q:=fun h=>by subst h;rw[hb] at hq;cases hq
 simp at gl0
 simp[hb,hqb,gl0,e0]
 refine callK.of (his _) ?_
 rintro v σ' ⟨rfl,rfl⟩
 simp
 refine callK.of (htk _ (by simp[hqb,hb']) hlen (by omega)) ?_
 rintro v σ' ⟨rfl,rfl⟩
 simp[hw]
 intro r hr
 simp only[ite_none] at hr
 obtain ⟨hrb,hrq,hr0⟩:=hr
 refine callK.of (hch _ (by simp[Ne.symm hrb]) htl) ?_
 rintro v σ' ⟨o',rfl,rfl⟩
 simp only[List.headD_eq_head?_getD]
 generalize tl.head?.getD 0=c at*
 generalize tl.tail=l' at*
 generalize chE tl 0=e at*
 simp[Ne.symm hqb,hrb,Ne.symm hrq]
 refine ⟨opA {kind:=8,code:=c}, ?_,σ.upd b (scA o' l' e), ?_,_,_,_,_,rfl,rfl,hst⟩
 ·simp[opA,opC,byteA,pairsA,bytesA_nil]
 ·(intro q;simp only[Store.upd,Store.del];(repeat' split)<;>simp_all)
theorem op_40 (b:Nat) (o:Bool) (tl:List UInt8) (σ:Store) (hb:σ b=some (scA o (40::tl) 0)) (hl:(40::tl:List UInt8).length≤1000000000):ACalls Tryz.prog 60 [ptrA b] σ (OpR b (40::tl) σ):=by
 have ho:isOrd 40=true:=by decide
 have his:=is_calls 40
 have htk:=take_ok b o (40::tl) 0 1
 have e1:bytesA ((40::tl:List UInt8).take 1)=[.lit (.int .u8 40)]:=rfl
 have e2:(40::tl:List UInt8).drop 1=tl:=rfl
 have e3:byteA 40= .lit (.int .u8 40):=rfl
 have hw:IntKind.i64.wrap 40=40:=by decide
 rw[e1,e2] at htk
 rw[ho,e3] at his
 have hb':=hb
 have g0:(bytesA (40::tl))[0]?=some (.lit (.int .u8 40)):=rfl
 have gl0:0<(bytesA (40::tl)).length:=by simp
 have e0:=(List.getElem_eq_iff gl0).2 g0
 unfold scA at hb
 have hlen:1≤(40::tl:List UInt8).length:=by simp
 have htl:tl.length≤1000000000:=by simp at hl;omega
 have hch:=pair_calls b false tl 0
 have hst:=step_of (by simp) (opF_40 tl)
 generalize hL:(40::tl:List UInt8)=l at*
 refine aw st60 pl60 79 Tryz.func60 rfl ?_
 simp
 intro q hq
 have hqb:b≠q:=fun h=>by subst h;rw[hb] at hq;cases hq
 simp at gl0
 simp[hb,hqb,gl0,e0]
 refine callK.of (his _) ?_
 rintro v σ' ⟨rfl,rfl⟩
 simp
 refine callK.of (htk _ (by simp[hqb,hb']) hlen (by omega)) ?_
 rintro v σ' ⟨rfl,rfl⟩
 simp[hw]
 intro r hr
 simp only[ite_none] at hr
 obtain ⟨hrb,hrq,hr0⟩:=hr
 refine callK.of (hch _ (by simp[Ne.symm hrb]) htl) ?_
 rintro v σ' ⟨ow,o',rfl,rfl⟩
 generalize prP tl=ps at*
 generalize prL tl=l' at*
 generalize prE tl 0=e at*
 simp[Ne.symm hqb,hrb,Ne.symm hrq]
 refine ⟨opA {kind:=40,pairs:=ps}, ?_,σ.upd b (scA o' l' e), ?_,_,_,_,_,rfl,rfl,hst⟩
 ·simp[opA,opC,byteA,pairsA,bytesA_nil]
 ·(intro q;simp only[Store.upd,Store.del];(repeat' split)<;>simp_all)
theorem op_41 (b:Nat) (o:Bool) (tl:List UInt8) (σ:Store) (hb:σ b=some (scA o (41::tl) 0)) (hl:(41::tl:List UInt8).length≤1000000000):ACalls Tryz.prog 60 [ptrA b] σ (OpR b (41::tl) σ):=by
 have ho:isOrd 41=true:=by decide
 have his:=is_calls 41
 have htk:=take_ok b o (41::tl) 0 1
 have e1:bytesA ((41::tl:List UInt8).take 1)=[.lit (.int .u8 41)]:=rfl
 have e2:(41::tl:List UInt8).drop 1=tl:=rfl
 have e3:byteA 41= .lit (.int .u8 41):=rfl
 have hw:IntKind.i64.wrap 41=41:=by decide
 rw[e1,e2] at htk
 rw[ho,e3] at his
 have hb':=hb
 have g0:(bytesA (41::tl))[0]?=some (.lit (.int .u8 41)):=rfl
 have gl0:0<(bytesA (41::tl)).length:=by simp
 have e0:=(List.getElem_eq_iff gl0).2 g0
 unfold scA at hb
 have hlen:1≤(41::tl:List UInt8).length:=by simp
 have htl:tl.length≤1000000000:=by simp at hl;omega
 have hch:=pairs_calls b false tl 0
 have hst:=step_of (by simp) (opF_41 tl)
 generalize hL:(41::tl:List UInt8)=l at*
 refine aw st60 pl60 79 Tryz.func60 rfl ?_
 simp
 intro q hq
 have hqb:b≠q:=fun h=>by subst h;rw[hb] at hq;cases hq
 simp at gl0
 simp[hb,hqb,gl0,e0]
 refine callK.of (his _) ?_
 rintro v σ' ⟨rfl,rfl⟩
 simp
 refine callK.of (htk _ (by simp[hqb,hb']) hlen (by omega)) ?_
 rintro v σ' ⟨rfl,rfl⟩
 simp[hw]
 intro r hr
 simp only[ite_none] at hr
 obtain ⟨hrb,hrq,hr0⟩:=hr
 refine callK.of (hch _ (by simp[Ne.symm hrb]) htl) ?_
 rintro v σ' ⟨ow,o',rfl,rfl⟩
 have hz:(if (attrF tl).1=0 then 0 else failE 0 (attrF tl).1)=(attrF tl).1:=by split<;>simp_all[failE]
 rw[hz]
 generalize (attrF tl).2=ps at*
 generalize tl.drop (attrN tl)=l' at*
 generalize (attrF tl).1=e at*
 simp[Ne.symm hqb,hrb,Ne.symm hrq]
 refine ⟨opA {kind:=41,pairs:=ps}, ?_,σ.upd b (scA o' l' e), ?_,_,_,_,_,rfl,rfl,hst⟩
 ·simp[opA,opC,byteA,pairsA,bytesA_nil]
 ·(intro q;simp only[Store.upd,Store.del];(repeat' split)<;>simp_all)
theorem op_44 (b:Nat) (o:Bool) (tl:List UInt8) (σ:Store) (hb:σ b=some (scA o (44::tl) 0)) (hl:(44::tl:List UInt8).length≤1000000000):ACalls Tryz.prog 60 [ptrA b] σ (OpR b (44::tl) σ):=by
 have ho:isOrd 44=true:=by decide
 have his:=is_calls 44
 have htk:=take_ok b o (44::tl) 0 1
 have e1:bytesA ((44::tl:List UInt8).take 1)=[.lit (.int .u8 44)]:=rfl
 have e2:(44::tl:List UInt8).drop 1=tl:=rfl
 have e3:byteA 44= .lit (.int .u8 44):=rfl
 have hw:IntKind.i64.wrap 44=44:=by decide
 rw[e1,e2] at htk
 rw[ho,e3] at his
 have hb':=hb
 have g0:(bytesA (44::tl))[0]?=some (.lit (.int .u8 44)):=rfl
 have gl0:0<(bytesA (44::tl)).length:=by simp
 have e0:=(List.getElem_eq_iff gl0).2 g0
 unfold scA at hb
 have hlen:1≤(44::tl:List UInt8).length:=by simp
 have htl:tl.length≤1000000000:=by simp at hl;omega
 have hch:=pairs_calls b false tl 0
 have hst:=step_of (by simp) (opF_44 tl)
 generalize hL:(44::tl:List UInt8)=l at*
 refine aw st60 pl60 79 Tryz.func60 rfl ?_
 simp
 intro q hq
 have hqb:b≠q:=fun h=>by subst h;rw[hb] at hq;cases hq
 simp at gl0
 simp[hb,hqb,gl0,e0]
 refine callK.of (his _) ?_
 rintro v σ' ⟨rfl,rfl⟩
 simp
 refine callK.of (htk _ (by simp[hqb,hb']) hlen (by omega)) ?_
 rintro v σ' ⟨rfl,rfl⟩
 simp[hw]
 intro r hr
 simp only[ite_none] at hr
 obtain ⟨hrb,hrq,hr0⟩:=hr
 refine callK.of (hch _ (by simp[Ne.symm hrb]) htl) ?_
 rintro v σ' ⟨ow,o',rfl,rfl⟩
 have hz:(if (attrF tl).1=0 then 0 else failE 0 (attrF tl).1)=(attrF tl).1:=by split<;>simp_all[failE]
 rw[hz]
 generalize (attrF tl).2=ps at*
 generalize tl.drop (attrN tl)=l' at*
 generalize (attrF tl).1=e at*
 simp[Ne.symm hqb,hrb,Ne.symm hrq]
 refine ⟨opA {kind:=44,pairs:=ps}, ?_,σ.upd b (scA o' l' e), ?_,_,_,_,_,rfl,rfl,hst⟩
 ·simp[opA,opC,byteA,pairsA,bytesA_nil]
 ·(intro q;simp only[Store.upd,Store.del];(repeat' split)<;>simp_all)
theorem op_29 (b:Nat) (o:Bool) (tl:List UInt8) (σ:Store) (hb:σ b=some (scA o (29::tl) 0)) (hl:(29::tl:List UInt8).length≤1000000000):ACalls Tryz.prog 60 [ptrA b] σ (OpR b (29::tl) σ):=by
 have ho:isOrd 29=true:=by decide
 have his:=is_calls 29
 have htk:=take_ok b o (29::tl) 0 1
 have e1:bytesA ((29::tl:List UInt8).take 1)=[.lit (.int .u8 29)]:=rfl
 have e2:(29::tl:List UInt8).drop 1=tl:=rfl
 have e3:byteA 29= .lit (.int .u8 29):=rfl
 have hw:IntKind.i64.wrap 29=29:=by decide
 rw[e1,e2] at htk
 rw[ho,e3] at his
 have hb':=hb
 have g0:(bytesA (29::tl))[0]?=some (.lit (.int .u8 29)):=rfl
 have gl0:0<(bytesA (29::tl)).length:=by simp
 have e0:=(List.getElem_eq_iff gl0).2 g0
 unfold scA at hb
 have hlen:1≤(29::tl:List UInt8).length:=by simp
 have htl:tl.length≤1000000000:=by simp at hl;omega
 have ht1:=take_short1 b false 0
 have ht2:=fun (x:UInt8) (t:List UInt8)=>take_ok b false (x::t) 0 1
 have hst:=step_of (by simp) (opF_29 tl)
 generalize hL:(29::tl:List UInt8)=l at*
 refine aw st60 pl60 79 Tryz.func60 rfl ?_
 simp
 intro q hq
 have hqb:b≠q:=fun h=>by subst h;rw[hb] at hq;cases hq
 simp at gl0
 simp[hb,hqb,gl0,e0]
 refine callK.of (his _) ?_
 rintro v σ' ⟨rfl,rfl⟩
 simp
 refine callK.of (htk _ (by simp[hqb,hb']) hlen (by omega)) ?_
 rintro v σ' ⟨rfl,rfl⟩
 simp[hw]
 intro r hr
 simp only[ite_none] at hr
 obtain ⟨hrb,hrq,hr0⟩:=hr
 rcases tl with _|⟨x,t⟩
 ·refine callK.of (ht1 _ (by simp[Ne.symm hrb])) ?_
  rintro v σ' ⟨rfl,rfl⟩
  have f1:bytesA [0]=[byteA 0]:=rfl
  simp[Ne.symm hqb,hrb,Ne.symm hrq,f1]
  refine ⟨opA {kind:=29,fa:=0}, ?_,σ.upd b (scA true [] (failE 0 2)), ?_,_,_,_,_,rfl,rfl,hst⟩
  ·simp[opA,opC,byteA,pairsA,bytesA_nil]
  ·(intro q;simp only[Store.upd,Store.del];(repeat' split)<;>simp_all)
 ·refine callK.of (ht2 x t _ (by simp[Ne.symm hrb]) (by simp) (by simp at htl⊢;omega)) ?_
  rintro v σ' ⟨rfl,rfl⟩
  have f1:bytesA ((x::t).take 1)=[byteA x]:=rfl
  have f2:(x::t).drop 1=t:=rfl
  rw[f1,f2]
  simp[Ne.symm hqb,hrb,Ne.symm hrq]
  refine ⟨opA {kind:=29,fa:=x}, ?_,σ.upd b (scA false t 0), ?_,_,_,_,_,rfl,rfl,hst⟩
  ·simp[opA,opC,byteA,pairsA,bytesA_nil]
  ·(intro q;simp only[Store.upd,Store.del];(repeat' split)<;>simp_all)
theorem op_17 (b:Nat) (o:Bool) (tl:List UInt8) (σ:Store) (hb:σ b=some (scA o (17::tl) 0)) (hl:(17::tl:List UInt8).length≤1000000000):ACalls Tryz.prog 60 [ptrA b] σ (OpR b (17::tl) σ):=by
 have ho:isOrd 17=true:=by decide
 have his:=is_calls 17
 have htk:=take_ok b o (17::tl) 0 1
 have e1:bytesA ((17::tl:List UInt8).take 1)=[.lit (.int .u8 17)]:=rfl
 have e2:(17::tl:List UInt8).drop 1=tl:=rfl
 have e3:byteA 17= .lit (.int .u8 17):=rfl
 have hw:IntKind.i64.wrap 17=17:=by decide
 rw[e1,e2] at htk
 rw[ho,e3] at his
 have hb':=hb
 have g0:(bytesA (17::tl))[0]?=some (.lit (.int .u8 17)):=rfl
 have gl0:0<(bytesA (17::tl)).length:=by simp
 have e0:=(List.getElem_eq_iff gl0).2 g0
 unfold scA at hb
 have hlen:1≤(17::tl:List UInt8).length:=by simp
 have htl:tl.length≤1000000000:=by simp at hl;omega
 have had:=addr_calls b false tl
 have hst:=step_of (by simp) (opF_17 tl)
 generalize hL:(17::tl:List UInt8)=l at*
 refine aw st60 pl60 79 Tryz.func60 rfl ?_
 simp
 intro q hq
 have hqb:b≠q:=fun h=>by subst h;rw[hb] at hq;cases hq
 simp at gl0
 simp[hb,hqb,gl0,e0]
 refine callK.of (his _) ?_
 rintro v σ' ⟨rfl,rfl⟩
 simp
 refine callK.of (htk _ (by simp[hqb,hb']) hlen (by omega)) ?_
 rintro v σ' ⟨rfl,rfl⟩
 simp[hw]
 intro r hr
 simp only[ite_none] at hr
 obtain ⟨hrb,hrq,hr0⟩:=hr
 refine callK.of (had _ (by simp[Ne.symm hrb]) htl) ?_
 rintro v σ' ⟨o',rfl,rfl⟩
 generalize adN tl=n at*
 generalize adL tl=l' at*
 generalize adE tl=e at*
 simp[Ne.symm hqb,hrb,Ne.symm hrq]
 refine ⟨opA {kind:=17,addr:=n}, ?_,σ.upd b (scA o' l' e), ?_,_,_,_,_,rfl,rfl,hst⟩
 ·simp[opA,opC,byteA,pairsA,bytesA_nil]
 ·(intro q;simp only[Store.upd,Store.del];(repeat' split)<;>simp_all)
theorem op_18 (b:Nat) (o:Bool) (tl:List UInt8) (σ:Store) (hb:σ b=some (scA o (18::tl) 0)) (hl:(18::tl:List UInt8).length≤1000000000):ACalls Tryz.prog 60 [ptrA b] σ (OpR b (18::tl) σ):=by
 have ho:isOrd 18=true:=by decide
 have his:=is_calls 18
 have htk:=take_ok b o (18::tl) 0 1
 have e1:bytesA ((18::tl:List UInt8).take 1)=[.lit (.int .u8 18)]:=rfl
 have e2:(18::tl:List UInt8).drop 1=tl:=rfl
 have e3:byteA 18= .lit (.int .u8 18):=rfl
 have hw:IntKind.i64.wrap 18=18:=by decide
 rw[e1,e2] at htk
 rw[ho,e3] at his
 have hb':=hb
 have g0:(bytesA (18::tl))[0]?=some (.lit (.int .u8 18)):=rfl
 have gl0:0<(bytesA (18::tl)).length:=by simp
 have e0:=(List.getElem_eq_iff gl0).2 g0
 unfold scA at hb
 have hlen:1≤(18::tl:List UInt8).length:=by simp
 have htl:tl.length≤1000000000:=by simp at hl;omega
 have had:=addr_calls b false tl
 have hst:=step_of (by simp) (opF_18 tl)
 generalize hL:(18::tl:List UInt8)=l at*
 refine aw st60 pl60 79 Tryz.func60 rfl ?_
 simp
 intro q hq
 have hqb:b≠q:=fun h=>by subst h;rw[hb] at hq;cases hq
 simp at gl0
 simp[hb,hqb,gl0,e0]
 refine callK.of (his _) ?_
 rintro v σ' ⟨rfl,rfl⟩
 simp
 refine callK.of (htk _ (by simp[hqb,hb']) hlen (by omega)) ?_
 rintro v σ' ⟨rfl,rfl⟩
 simp[hw]
 intro r hr
 simp only[ite_none] at hr
 obtain ⟨hrb,hrq,hr0⟩:=hr
 refine callK.of (had _ (by simp[Ne.symm hrb]) htl) ?_
 rintro v σ' ⟨o',rfl,rfl⟩
 generalize adN tl=n at*
 generalize adL tl=l' at*
 generalize adE tl=e at*
 simp[Ne.symm hqb,hrb,Ne.symm hrq]
 refine ⟨opA {kind:=18,addr:=n}, ?_,σ.upd b (scA o' l' e), ?_,_,_,_,_,rfl,rfl,hst⟩
 ·simp[opA,opC,byteA,pairsA,bytesA_nil]
 ·(intro q;simp only[Store.upd,Store.del];(repeat' split)<;>simp_all)
theorem op_60 (b:Nat) (o:Bool) (tl:List UInt8) (σ:Store) (hb:σ b=some (scA o (60::tl) 0)) (hl:(60::tl:List UInt8).length≤1000000000):ACalls Tryz.prog 60 [ptrA b] σ (OpR b (60::tl) σ):=by
 have ho:isOrd 60=true:=by decide
 have his:=is_calls 60
 have htk:=take_ok b o (60::tl) 0 1
 have e1:bytesA ((60::tl:List UInt8).take 1)=[.lit (.int .u8 60)]:=rfl
 have e2:(60::tl:List UInt8).drop 1=tl:=rfl
 have e3:byteA 60= .lit (.int .u8 60):=rfl
 have hw:IntKind.i64.wrap 60=60:=by decide
 rw[e1,e2] at htk
 rw[ho,e3] at his
 have hb':=hb
 have g0:(bytesA (60::tl))[0]?=some (.lit (.int .u8 60)):=rfl
 have gl0:0<(bytesA (60::tl)).length:=by simp
 have e0:=(List.getElem_eq_iff gl0).2 g0
 unfold scA at hb
 have hlen:1≤(60::tl:List UInt8).length:=by simp
 have htl:tl.length≤1000000000:=by simp at hl;omega
 have had:=addr_calls b false tl
 have htk8:=fun (o':Bool) (x:UInt8) (t:List UInt8) (e:Nat)=>take_ok b o' (x::t) e 1
 have hch:=fun (o':Bool) (t:List UInt8) (e:Nat)=>char_calls b o' t e
 have hst:=step_of (by simp) (opF_60 tl)
 generalize hL:(60::tl:List UInt8)=l at*
 refine aw st60 pl60 79 Tryz.func60 rfl ?_
 simp
 intro q hq
 have hqb:b≠q:=fun h=>by subst h;rw[hb] at hq;cases hq
 simp at gl0
 simp[hb,hqb,gl0,e0]
 refine callK.of (his _) ?_
 rintro v σ' ⟨rfl,rfl⟩
 simp
 refine callK.of (htk _ (by simp[hqb,hb']) hlen (by omega)) ?_
 rintro v σ' ⟨rfl,rfl⟩
 simp[hw]
 intro r hr
 simp only[ite_none] at hr
 obtain ⟨hrb,hrq,hr0⟩:=hr
 refine callK.of (had _ (by simp[Ne.symm hrb]) htl) ?_
 rintro v σ' ⟨o',rfl,rfl⟩
 have h1:=adL_le tl
 unfold raL raG at hst
 generalize adN tl=n at*
 generalize adL tl=l' at*
 generalize adE tl=e at*
 rcases l' with _|⟨x,t⟩
 ·have hsc:scA o' [] e=[.list o' 1 [], .lit (.int .i64 e)]:=rfl
  rw[hsc]
  simp[hrb,Ne.symm hrb]
  ·refine callK.of (hch o' [] e _ (by simp[Ne.symm hrb];rfl) (by simp)) ?_
   rintro v σ' ⟨o2,rfl,rfl⟩
   simp[Ne.symm hqb,hrb,Ne.symm hrq]
   refine ⟨opA {kind:=60,addr:=n,code:=0}, ?_,σ.upd b (scA o2 [] (chE [] e)), ?_,_,_,_,_,rfl,rfl,hst⟩
   ·simp[opA,opC,byteA,pairsA,bytesA_nil]
   ·(intro q;simp only[Store.upd,Store.del];(repeat' split)<;>simp_all)
 ·have hsc:scA o' (x::t) e=[.list o' 1 (byteA x::bytesA t), .lit (.int .i64 e)]:=rfl
  have hbt:(bytesA t).length=t.length:=by simp
  by_cases hx:(x.toNat:Int)=8
  ·rw[hsc]
   simp[hrb,Ne.symm hrb,byteA,hx]
   have h8:=htk8 o' x t e
   have f1:bytesA ((x::t).take 1)=[byteA x]:=rfl
   have f2:(x::t).drop 1=t:=rfl
   rw[f1,f2] at h8
   refine callK.of (h8 _ (by simp[Ne.symm hrb,hsc,byteA,hx]) (by simp) (by simp at h1⊢;omega)) ?_
   rintro v σ' ⟨rfl,rfl⟩
   simp[hrb]
   refine callK.of (hch false t e _ (by simp[Ne.symm hrb]) (by simp at h1⊢;omega)) ?_
   rintro v σ' ⟨o2,rfl,rfl⟩
   simp[Ne.symm hqb,hrb,Ne.symm hrq]
   refine ⟨opA {kind:=60,addr:=n,code:=t.headD 0,graph:=true}, ?_,σ.upd b (scA o2 t.tail (chE t e)), ?_,_,_,_,_,rfl,rfl,by have h8:x=8:=UInt8.toNat_inj.1 (by have:(8:UInt8).toNat=8:=rfl;omega);subst h8;exact hst⟩
   ·simp[opA,opC,byteA,pairsA,bytesA_nil]
   ·(intro q;simp only[Store.upd,Store.del];(repeat' split)<;>simp_all)
  ·have h8:((x::t).head?==some (8:UInt8))=false:=by simp;rintro rfl;exact hx rfl
   rw[h8] at hst
   rw[hsc]
   simp[hrb,Ne.symm hrb,byteA,hx]
   refine callK.of (hch o' (x::t) e _ (by simp[Ne.symm hrb,hsc,byteA]) (by simp at h1⊢;omega)) ?_
   rintro v σ' ⟨o2,rfl,rfl⟩
   simp[Ne.symm hqb,hrb,Ne.symm hrq]
   refine ⟨opA {kind:=60,addr:=n,code:=x}, ?_,σ.upd b (scA o2 t (chE (x::t) e)), ?_,_,_,_,_,rfl,rfl,hst⟩
   ·simp[opA,opC,byteA,pairsA,bytesA_nil]
   ·(intro q;simp only[Store.upd,Store.del];(repeat' split)<;>simp_all)
theorem op_calls (b:Nat) (o:Bool) (l:List UInt8) (σ:Store) (hb:σ b=some (scA o l 0)) (hl:l.length≤1000000000) (hne:l≠[]):ACalls Tryz.prog 60 [ptrA b] σ (OpR b l σ):=by
 rcases l with _|⟨c,tl⟩
 ·exact absurd rfl hne
 ·by_cases hc:isOrd c=true
  ·rcases isOrd_cases hc with rfl|rfl|rfl|rfl|rfl|rfl|rfl|rfl|rfl|rfl
   ·exact op_5 b o tl σ hb hl
   ·exact op_8 b o tl σ hb hl
   ·exact op_17 b o tl σ hb hl
   ·exact op_18 b o tl σ hb hl
   ·exact op_19 b o tl σ hb hl
   ·exact op_29 b o tl σ hb hl
   ·exact op_40 b o tl σ hb hl
   ·exact op_41 b o tl σ hb hl
   ·exact op_44 b o tl σ hb hl
   ·exact op_60 b o tl σ hb hl
  ·exact op_text b o c tl σ hb hl (by simpa using hc)
inductive AllS:List UInt8→List Op→Nat→Prop
 |nil:AllS [] [] 0
 |ok {l l' o os e} :Step l o l' 0→AllS l' os e→AllS l (o::os) e
 |bad {l l' o e} :Step l o l' e→e≠0→AllS l [] e
inductive Pre (p:List UInt8):List Op→List UInt8→Prop
 |refl:Pre p [] p
 |snoc {out l o l'} :Pre p out l→Step l o l' 0→Pre p (out++[o]) l'
theorem Pre.all {p l:List UInt8} {out os:List Op} {e:Nat} (h:Pre p out l) (k:AllS l os e):AllS p (out++os) e:=by
 induction h generalizing os with
 |refl=>exact k
 |snoc h1 h2 ih=>rw[List.append_assoc];exact ih (.ok h2 k)
theorem Pre.len {p l:List UInt8} {out:List Op} (h:Pre p out l):out.length+l.length≤p.length:=by
 induction h with
 |refl=>simp
 |snoc h1 h2 ih=>have:=h2.len;simp;omega
def AllR (p:List UInt8) (σ:Store) (v:AV) (σ':Store):Prop:=∃ow os n e,v= .tuple [.list ow 7 (opsA os), .lit (.int .i64 n), .lit (.int .i64 (e:Nat))]∧σ'=σ∧AllS p os e∧os.length≤p.length
theorem all_calls (o:Bool) (p:List UInt8) (σ:Store) (hp:p.length≤100000):ACalls Tryz.prog 31 [.list o 1 (bytesA p)] σ (AllR p σ):=by
 refine aw st31 pl31 46 Tryz.func31 rfl ?_
 simp
 intro q hq
 refine codeK.loop follows (st:=st31) (plans:=pl31) (X:=List Op×List UInt8×Bool) (fun x=>Pre p x.1 x.2.1)
  (fun x=>[(0, .list false 1 (bytesA p)),(5, .list true 7 (opsA x.1)),(6,ptrA q)]) (fun x=>σ.upd q (scA x.2.2 x.2.1 0)) (fun x=>x.2.1.length) ([],p,false) (by kernel_rfl) .refl (by simp[opsA]) (by simp[scA]) fun x hx=> ?_
 obtain ⟨out,l,ow⟩:=x
 dsimp only at hx⊢
 have hlen:=hx.len
 have hsc:∀ow l e,scA ow l e=[.list ow 1 (bytesA l), .lit (.int .i64 e)]:=fun _ _ _=>rfl
 by_cases hl:l=[]
 ·subst hl
  rw[hsc]
  simp[bytesA_nil]
  exact ⟨_,AV.le_refl _,σ,sub_upd_self _ _ _ hq,true,out,_,0,rfl,rfl,by simpa using hx.all .nil,by simp at hlen;omega⟩
 ·have hop:=op_calls q ow l
  have hpos:0<l.length:=List.length_pos_iff.2 hl
  have hw:True:=trivial
  have h1:=hsc ow l 0
  simp[-Bool.exists_bool,h1,hpos]
  refine callK.of (hop _ (by simp[hsc]) (by omega) hl) ?_
  rintro v σ' ⟨op,o',l',e,rfl,rfl,hst⟩
  have h2:=hsc o' l' e
  by_cases h0:e=0
  ·subst h0
   simp[-Bool.exists_bool,h2,opA,opC]
   intro r hr
   simp only[ite_none] at hr
   obtain ⟨hrq,hr0⟩:=hr
   have hqr:=Ne.symm hrq
   simp[-Bool.exists_bool,hqr]
   refine ⟨by omega,by omega,out++[op],l', .snoc hx hst,hst.len, ?_,o', ?_⟩
   ·rw[opsA_append];exact AV.le_refl _
   ·rw[h2]
    (intro q;simp only[Store.upd,Store.del];(repeat' split)<;>first|exact Or.inr rfl|exact Or.inl rfl|(exfalso;omega)|(left;subst_vars;assumption)|simp_all)
  ·have h0':¬(e:Int)=0:=by omega
   simp[-Bool.exists_bool,h2,opA,opC]
   intro r hr
   simp only[ite_none] at hr
   obtain ⟨hrq,hr0⟩:=hr
   have hqr:=Ne.symm hrq
   simp[-Bool.exists_bool,hqr,h0]
   refine ⟨_,AV.le_refl _,σ, ?_,true,out,_,e,rfl,rfl,by simpa using hx.all (.bad hst h0),by omega⟩
   (intro q;simp only[Store.upd,Store.del];(repeat' split)<;>first|exact Or.inr rfl|exact Or.inl rfl|(exfalso;omega)|(left;subst_vars;assumption)|simp_all)
def allN:Nat→List UInt8→List Op×Nat
 |0,_=>([],0)
 |_+1,[]=>([],0)
 |n+1,c::tl=>if (opF (c::tl)).1=0 then ((opF (c::tl)).2.1::(allN n (opF (c::tl)).2.2).1,(allN n (opF (c::tl)).2.2).2) else ([],(opF (c::tl)).1)
theorem opF_len {l:List UInt8} (h:l≠[]):(opF l).2.2.length<l.length:=(step_of h rfl).len
theorem AllS.allN {l:List UInt8} {os:List Op} {e:Nat} (h:AllS l os e):∀n,l.length≤n→allN n l=(os,e):=by
 induction h with
 |nil=>intro n _;cases n<;>rfl
 | @ok l l' o os e h1 h2 ih=>
  intro n hn
  have hlen:=h1.len
  have hfn:=h1.fn
  rcases l with _|⟨c,tl⟩
  ·simp at hlen
  cases n with
  |zero=>simp at hn
  |succ n=>
   have:=ih n (by omega)
   simp only[Go.Proofs.YtjnopnpkfhopbaaGreatDoor.allN,hfn,if_true,this]
 | @bad l l' o e h1 h2=>
  intro n hn
  have hlen:=h1.len
  have hfn:=h1.fn
  rcases l with _|⟨c,tl⟩
  ·simp at hlen
  cases n with
  |zero=>simp at hn
  |succ n=>simp only[Go.Proofs.YtjnopnpkfhopbaaGreatDoor.allN,hfn,if_neg h2]
theorem allN_more:∀(n:Nat) (l:List UInt8),l.length≤n→allN n l=allN l.length l:=by
 intro n
 induction n using Nat.strongRecOn with
 |_ n ih=>
  intro l hl
  rcases l with _|⟨c,tl⟩
  ·cases n<;>rfl
  cases n with
  |zero=>simp at hl
  |succ n=>
   simp only[List.length_cons] at hl⊢
   have h1:=opF_len (l:=c::tl) (by simp)
   simp only[List.length_cons] at h1
   have e1:=ih n (by omega) (opF (c::tl)).2.2 (by omega)
   have e2:=ih tl.length (by omega) (opF (c::tl)).2.2 (by omega)
   simp only[allN,e1,e2]
def allF (l:List UInt8):List Op×Nat:=allN l.length l
theorem AllS.fn {l:List UInt8} {os:List Op} {e:Nat} (h:AllS l os e):allF l=(os,e):=h.allN _ (Nat.le_refl _)
theorem allF_nil:allF []=([],0):=rfl
theorem allF_cons {c:UInt8} {tl:List UInt8} :allF (c::tl)=if (opF (c::tl)).1=0 then ((opF (c::tl)).2.1::(allF (opF (c::tl)).2.2).1,(allF (opF (c::tl)).2.2).2) else ([],(opF (c::tl)).1):=by
 have h1:=opF_len (l:=c::tl) (by simp)
 simp only[List.length_cons] at h1
 rw[allF,List.length_cons,allN,allN_more tl.length _ (by omega)];rfl
end Go.Proofs.YtjnopnpkfhopbaaGreatDoor
