/-
 A character as it is sent, with how it looks.
-/
import Derived.Test.YtjnopnpkfhopbaaGreatDoorPart20
set_option linter.unusedSimpArgs false
set_option linter.unusedVariables false
set_option maxRecDepth 8000
set_option maxHeartbeats 8000000
namespace Go.Proofs.YtjnopnpkfhopbaaGreatDoor
open Go Go.AL Go.Sp
def saB (l:List (UInt8×UInt8)):List UInt8:=l.flatMap fun x=>[0x28,x.1,x.2]
theorem saB_length (l:List (UInt8×UInt8)):(saB l).length=l.length*3:=by
 induction l with
 |nil=>rfl
 |cons x l ih=>simp only[saB,List.flatMap_cons,List.length_append,List.length_cons,List.length_nil] at ih⊢;omega
theorem diffP_length (a b:Cell):(diffP a b).length≤3:=by
 unfold diffP d1 d2 d3
 split<;>split<;>split<;>simp
def charG (last c:Cell):List UInt8:=saB (diffP last c)++[codeB c.char]
set_option maxRecDepth 8000
set_option maxHeartbeats 1000000
theorem schar2_calls (z:Nat) (out:List UInt8) (last:Cell) (c:Cell) (ho:out.length≤1000000000) (σ:Store) (hz:σ z=some (seO out last 2)):
  ACalls Tryz.prog 27 [ptrA z,cellA c] σ fun v σ'=>v= .tuple []∧σ'=σ.upd z (seO (out++charG last c) c 2):=by
 have hic:=is_calls c.char
 have hd:=diff_calls last c
 have hLl:=diffP_length last c
 simp only[cellA_eq] at hd⊢
 have hcc:∀c:Cell,cellC c=[byteA c.char, .lit (.bool c.attr),byteA c.fa,byteA c.high,byteA c.color,byteA c.set]:=fun _=>rfl
 have hs1:∀l last,seO l last 2=[.list true 1 (bytesA l),byteA last.char, .lit (.bool last.attr),byteA last.fa,byteA last.high,byteA last.color,byteA last.set, .lit (.int .i64 2)]:=fun _ _=>rfl
 rw[charG]
 generalize diffP last c=L at*
 rw[hs1] at hz
 have hzb:∀b:Nat,σ b=none→¬z=b:=by rintro b hb rfl;rw[hz] at hb;cases hb
 refine aw st27 pl27 69 Tryz.func27 rfl ?_
 simp
 intro b hb
 have n1:=hzb b hb
 have n2:=Ne.symm n1
 simp[hz,n1,n2]
 refine callK.of (hd _) ?_
 rintro v σ' ⟨rfl,rfl⟩
 simp
 have hst0:∀X,σ.upd b X=(σ.upd b X).upd z (seO (out++saB (L.take 0)) last 2):=fun X=>by
  refine Store.ext2 (fun o=> ?_) (fun i=>by simp)
  simp only[supd_apply]
  by_cases e:o=z
  ·subst e;simp[n1,hz,saB,hs1]
  ·simp[e]
 rw[hst0]
 refine codeK.loop follows (st:=st27) (plans:=pl27) (X:=Nat) (fun i=>i≤L.length)
  (fun i=>[(0,ptrA z),(3,ptrA b),(18, .list false 2 (L.map p2A)),(19, .lit (.int .i64 L.length)),(20, .lit (.int .i64 i))])
  (fun i=>(σ.upd b (cellC c)).upd z (seO (out++saB (L.take i)) last 2)) (fun i=>L.length-i) 0 (by kernel_rfl) (by simp) (by simp) (by rw[hcc];exact Store.sub_refl _) fun i hi=> ?_
 have hol:(out++saB (L.take i)).length≤1000000009:=by
  rw[List.length_append,saB_length]
  have:(L.take i).length≤L.length:=by simp;omega
  omega
 by_cases hlt:i<L.length
 ·have hw:IntKind.i64.wrap ((i:Int)+1)=((i+1:Nat):Int):=wrap_i64 (by omega) (by omega)
  have hk:(L.map p2A)[i]'(by simpa using hlt)=p2A L[i]:=by simp
  have hnx:out++saB (L.take (i+1))=out++saB (L.take i)++[0x28,L[i].1,L[i].2]:=by
   rw[List.take_succ_eq_append_getElem hlt,saB,List.flatMap_append,←List.append_assoc];simp[saB]
  generalize L[i]=x at*
  have hk2:p2A x= .agg [byteA x.1,byteA x.2]:=rfl
  rw[hk2] at hk
  have e3:bytesA [0x28,x.1,x.2]=[.lit (.int .u8 40),byteA x.1,byteA x.2]:=rfl
  have hfin:bytesA (out++saB (L.take (i+1)))=bytesA (out++saB (L.take i))++[.lit (.int .u8 40),byteA x.1,byteA x.2]:=by rw[hnx,bytesA_append,e3]
  have hgoal:∀(X:List AV) (d:Nat),σ d=none→¬d=b→¬d=z→Store.sub ((σ.upd b (cellC c)).upd z (seO (out++saB (L.take (i+1))) last 2)) ((((σ.upd b (cellC c)).upd z X).upd d [byteA x.1,byteA x.2]).upd z (seO (out++saB (L.take (i+1))) last 2)):=fun X d h1 h2 h3=>by
   refine Store.sub2 (fun o=> ?_) (fun i=>by simp)
   simp only[supd_apply]
   by_cases g1:o=z
   ·right;simp[g1]
   ·by_cases g2:o=d
    ·left;simp[g1,g2,h1,h2,h3]
    ·right;simp[g1,g2]
  simp only[hs1] at hgoal⊢
  rw[hfin] at hgoal
  generalize out++saB (L.take i)=base at*
  clear hst0 hnx e3 hd hic hk2
  simp+contextual [hlt,hk,ite_free]
  intro d m1 m2 m3 m4 hdn
  exact ⟨by omega,by omega,i+1,by omega,by omega,by rw[hw];exact AV.le_refl _,by rw[hfin];exact hgoal _ d hdn m3 m1⟩
 ·obtain rfl:i=L.length:=by omega
  rw[List.take_length]
  simp only[hs1]
  have hsub:∀X Y,Store.sub (σ.upd z X) (((σ.upd b Y).upd z X)):=fun X Y=>by
   refine Store.sub2 (fun o=> ?_) (fun i=>by simp)
   simp only[supd_apply]
   by_cases g1:o=z
   ·right;simp[g1]
   ·by_cases g2:o=b
    ·left;simp[g2,n2,hb]
    ·right;simp[g1,g2]
  rw[List.take_length] at hol
  by_cases hor:isOrd c.char=true
  ·rw[hor] at hic
   have hf:bytesA (out++(saB L++[codeB c.char]))=bytesA (out++saB L)++[.lit (.int .u8 63)]:=by
    rw[←List.append_assoc,bytesA_append,codeB,if_pos hor];rfl
   rw[hf]
   generalize out++saB L=base at*
   simp[n1,n2,hcc]
   refine callK.of (hic _) ?_
   rintro v σ' ⟨rfl,rfl⟩
   simp[n1,n2]
   exact ⟨by omega,by omega,hsub _ _⟩
  ·rw[show isOrd c.char=false by simpa using hor] at hic
   have hf:bytesA (out++(saB L++[codeB c.char]))=bytesA (out++saB L)++[byteA c.char]:=by
    rw[←List.append_assoc,bytesA_append,codeB,if_neg hor];rfl
   rw[hf]
   generalize out++saB L=base at*
   simp[n1,n2,hcc]
   refine callK.of (hic _) ?_
   rintro v σ' ⟨rfl,rfl⟩
   simp[n1,n2]
   exact ⟨by omega,by omega,hsub _ _⟩
abbrev Snd:=List UInt8×Cell
def charX (mode:Nat) (x:Snd) (c:Cell):Snd:=if mode=2 then (x.1++charG x.2 c,c) else (x.1++charB c,x.2)
def someX (mode:Nat) (x:Snd) (c:Cell):Snd:=if c.char=0 then x else charX mode x c
def seX (mode:Nat) (x:Snd):List AV:=seO x.1 x.2 mode
theorem charG_length (a c:Cell):(charG a c).length≤10:=by
 have:=diffP_length a c
 rw[charG,List.length_append,saB_length];simp;omega
theorem charB_length (c:Cell):(charB c).length≤2:=by unfold charB;split<;>simp
def cellsX (mode:Nat) (x:Snd) (l:List Cell):Snd:=l.foldl (someX mode) x
def fieldX (mode:Nat) (s:Sp) (x:Snd) (a:Nat):Snd:=((Sp.places s.cells a).map fun i=>s.cells[i]?.getD .zero).foldl (someX mode) (x.1++(0x11::encM ((a+1) % s.n)),x.2)
def modX (mode:Nat) (s:Sp) (aid:UInt8):Snd:=if s.count=0 then cellsX mode (headB s aid, .zero) s.cells else s.modified.foldl (fieldX mode s) (headB s aid, .zero)
theorem foldl_take {α β:Type} (f:β→α→β) (b:β) (l:List α) (k:Nat) (h:k<l.length):(l.take (k+1)).foldl f b=f ((l.take k).foldl f b) l[k]:=by
 rw[List.take_succ_eq_append_getElem h,List.foldl_append];rfl
theorem foldl_length {α:Type} (f:Snd→α→Snd) (n:Nat) (h:∀x a,(f x a).1.length≤x.1.length+n):∀(l:List α) (x:Snd),(l.foldl f x).1.length≤x.1.length+l.length*n
 |[],x=>by simp
 |a::l,x=>by
  have h1:=h x a
  have h2:=foldl_length f n h l (f x a)
  rw[List.foldl_cons,List.length_cons,Nat.succ_mul];omega
inductive At
 |ch (b:UInt8)
 |ge (b:UInt8)
 |sa (t v:UInt8)
 |sf (b:UInt8)
 |sfe (l:List (UInt8×UInt8))
def flatP (l:List (UInt8×UInt8)):List UInt8:=l.flatMap fun p=>[p.1,p.2]
def At.op:At→Op
 | .ch b=>txtOp [b]
 | .ge b=> {kind:=8,code:=b}
 | .sa t v=> {kind:=40,pairs:=[(t,v)]}
 | .sf b=> {kind:=29,fa:=b}
 | .sfe l=> {kind:=41,pairs:=l}
def At.bytes:At→List UInt8
 | .ch b=>[b]
 | .ge b=>[8,b]
 | .sa t v=>[40,t,v]
 | .sf b=>[29,b]
 | .sfe l=>41::UInt8.ofNat l.length::flatP l
def At.ok:At→Prop
 | .ch b=>isOrd b=false
 | .ge b=>isOrd b=false
 | .sa t v=>chkE t v=0
 | .sf _=>True
 | .sfe l=>l.length≤255∧allP l
def atsB (l:List At):List UInt8:=l.flatMap At.bytes
def joinA:At→List Op→List Op
 | .ch b,o::os=>if o.kind=0 then txtOp (b::o.text)::os else txtOp [b]::o::os
 |a,os=>a.op::os
def mergeA:List At→List Op
 |[]=>[]
 |a::l=>joinA a (mergeA l)
theorem joinA_ch (b:UInt8) (o:Op) (os:List Op) (h:¬o.kind=0):joinA (.ch b) (o::os)=txtOp [b]::o::os:=by simp[joinA,h]
theorem flatP_length (l:List (UInt8×UInt8)):(flatP l).length=2*l.length:=by
 unfold flatP
 induction l with
 |nil=>rfl
 |cons x l ih=>simp only[List.flatMap_cons,List.length_append,ih,List.length_cons,List.length_nil];omega
theorem flatP_get:∀(l:List (UInt8×UInt8)) (i:Nat) (h:i<l.length),(flatP l)[2*i]?=some l[i].1∧(flatP l)[2*i+1]?=some l[i].2
 |[],i,h=>by simp at h
 |x::l,0,_=>by simp[flatP]
 |x::l,i+1,h=>by
  have ih:=flatP_get l i (by simpa using h)
  have e1:2*(i+1)=2*i+1+1:=by omega
  have e2:flatP (x::l)=x.1::x.2::flatP l:=rfl
  rw[e1,e2]
  simpa using ih
theorem prsN_flat (l:List (UInt8×UInt8)) (h:l.length≤255) (tl:List UInt8):prsN (UInt8.ofNat l.length::(flatP l++tl)) l.length=l:=by
 unfold prsN
 apply List.ext_getElem?
 intro i
 rw[List.getElem?_map]
 by_cases hi:i<l.length
 ·obtain ⟨h1,h2⟩:=flatP_get l i hi
  have hl:=flatP_length l
  rw[List.getElem?_range hi,List.getElem?_eq_getElem hi]
  have e1:1+2*i=2*i+1:=by omega
  simp only[Option.map_some,e1,List.getElem?_cons_succ]
  rw[List.getElem?_append_left (by omega),List.getElem?_append_left (by omega),h1,h2]
  rfl
 ·rw[List.getElem?_eq_none (by simpa using hi),List.getElem?_eq_none (by simpa using hi)];rfl
theorem ofNat_toNat {n:Nat} (h:n≤255):(UInt8.ofNat n).toNat=n:=by rw[UInt8.toNat_ofNat'];omega
theorem opF_sfe (l:List (UInt8×UInt8)) (h:l.length≤255) (hp:allP l) (tl:List UInt8):opF (41::UInt8.ofNat l.length::(flatP l++tl))=(0, {kind:=41,pairs:=l},tl):=by
 have hn:=ofNat_toNat h
 have hpr:=prsN_flat l h tl
 have hl:=flatP_length l
 have ha:attrF (UInt8.ofNat l.length::(flatP l++tl))=(0,l):=by
  unfold attrF
  dsimp only
  rw[hn,if_neg (by simp;omega),hpr,if_pos hp]
 have hN:attrN (UInt8.ofNat l.length::(flatP l++tl))=1+2*l.length:=by
  unfold attrN;rw[ha];simp[hn]
 rw[opF_41,ha,hN]
 have:(UInt8.ofNat l.length::(flatP l++tl)).drop (1+2*l.length)=tl:=by
  rw[Nat.add_comm,List.drop_succ_cons,←hl];simp
 rw[this]
theorem untilO_cons {c:UInt8} {l:List UInt8} (h:isOrd c=false):untilO (c::l)=c::untilO l:=by simp[untilO,h]
theorem fromO_cons {c:UInt8} {l:List UInt8} (h:isOrd c=false):fromO (c::l)=fromO l:=by simp[fromO,h]
theorem allF_ats (tl:List UInt8) (ht:tl=[]∨isOrd (tl.headD 0)=true):∀l:List At,(∀a∈l,a.ok)→allF (atsB l++tl)=(mergeA l++(allF tl).1,(allF tl).2)∧(∀c r,atsB l++tl=c::r→isOrd c=false→∃o os,mergeA l=o::os∧o=txtOp (untilO (c::r))∧allF (fromO (c::r))=(os++(allF tl).1,(allF tl).2))∧
  (∀c r,atsB l++tl=c::r→isOrd c=true→∀o os,mergeA l=o::os→¬o.kind=0)
 |[],_=>by
  refine ⟨rfl,fun c r h hc=> ?_,fun c r _ _ o os h=>by cases h⟩
  rcases ht with rfl|ht
  ·cases h
  ·have h':tl=c::r:=h
   rw[h'] at ht
   rw[show (c::r).headD 0=c from rfl,hc] at ht;cases ht
 |a::l,hok=>by
  obtain ⟨h1,h2,h3⟩:=allF_ats tl ht l fun x hx=>hok x (by simp[hx])
  have ha:=hok a (by simp)
  have hB:atsB (a::l)++tl=a.bytes++(atsB l++tl):=by simp[atsB]
  have hord:∀(c:UInt8) (rest:List UInt8) (o:Op),isOrd c=true→¬o.kind=0→a.bytes++(atsB l++tl)=c::rest→opF (c::rest)=(0,o,atsB l++tl)→mergeA (a::l)=o::mergeA l→
    allF (atsB (a::l)++tl)=(mergeA (a::l)++(allF tl).1,(allF tl).2)∧(∀c r,atsB (a::l)++tl=c::r→isOrd c=false→∃o os,mergeA (a::l)=o::os∧o=txtOp (untilO (c::r))∧allF (fromO (c::r))=(os++(allF tl).1,(allF tl).2))∧
    (∀c r,atsB (a::l)++tl=c::r→isOrd c=true→∀o os,mergeA (a::l)=o::os→¬o.kind=0):=by
   intro c rest o hc hk hb ho hm
   rw[hB,hb,hm]
   refine ⟨?_,fun c' r' e hc'=> ?_,fun c' r' e hc' o' os' e2=> ?_⟩
   ·rw[allF_cons,ho];simp only[if_true,h1];rfl
   ·obtain ⟨rfl,rfl⟩:=List.cons.inj e;rw[hc] at hc';cases hc'
   ·obtain ⟨rfl,rfl⟩:=List.cons.inj e2;exact hk
  cases a with
  |ch b=>
   have hb:isOrd b=false:=ha
   rw[hB]
   have hbytes:At.bytes (.ch b)++(atsB l++tl)=b::(atsB l++tl):=rfl
   rw[hbytes]
   have hall:allF (b::(atsB l++tl))=(txtOp (b::untilO (atsB l++tl))::(allF (fromO (atsB l++tl))).1,(allF (fromO (atsB l++tl))).2):=by
    rw[allF_cons,opF_text b _ hb,untilO_cons hb,fromO_cons hb];rfl
   have key:∃o os,mergeA (.ch b::l)=o::os∧o=txtOp (b::untilO (atsB l++tl))∧allF (fromO (atsB l++tl))=(os++(allF tl).1,(allF tl).2):=by
    have hm:mergeA (.ch b::l)=joinA (.ch b) (mergeA l):=rfl
    rw[hm]
    cases hX:atsB l++tl with
    |nil=>
     have hl:mergeA l=[]∧tl=[]:=by
      rw[List.append_eq_nil_iff] at hX
      refine ⟨?_,hX.2⟩
      cases l with
      |nil=>rfl
      |cons x l=>exfalso;have:=hX.1;simp[atsB] at this;cases x<;>simp[At.bytes] at this
     rw[hl.1,hl.2]
     exact ⟨_,_,rfl,rfl,rfl⟩
    |cons c r=>
     by_cases hc:isOrd c=false
     ·obtain ⟨o,os,e1,e2,e3⟩:=h2 c r hX hc
      rw[e1]
      subst e2
      exact ⟨_,_,rfl,rfl,e3⟩
     ·have hc':isOrd c=true:=by simpa using hc
      have u1:untilO (c::r)=[]:=by simp[untilO,hc']
      have u2:fromO (c::r)=c::r:=by simp[fromO,hc']
      rw[u1,u2]
      rw[hX] at h1
      cases hml:mergeA l with
      |nil=>exact ⟨_,_,rfl,rfl,by rw[h1,hml]⟩
      |cons o os=>
       rw[joinA_ch b o os (h3 c r hX hc' o os hml)]
       exact ⟨_,_,rfl,rfl,by rw[h1,hml]⟩
   obtain ⟨o,os,e1,e2,e3⟩:=key
   refine ⟨?_,fun c' r' e hc'=> ?_,fun c' r' e hc'=> ?_⟩
   ·rw[hall,e1,e3,e2];rfl
   ·obtain ⟨rfl,rfl⟩:=List.cons.inj e
    refine ⟨o,os,e1, ?_, ?_⟩
    ·rw[e2,untilO_cons hb]
    ·rw[fromO_cons hb];exact e3
   ·obtain ⟨rfl,rfl⟩:=List.cons.inj e;rw[hb] at hc';cases hc'
  |ge b=>
   refine hord 8 (b::(atsB l++tl)) {kind:=8,code:=b} rfl (show ¬_=0 by simp) rfl ?_ (by cases h:mergeA l<;>simp[mergeA,joinA,At.op, *])
   have hb:isOrd b=false:=ha
   rw[opF_8];simp[chE,hb]
  |sa t v=>
   refine hord 40 (t::v::(atsB l++tl)) {kind:=40,pairs:=[(t,v)]} rfl (show ¬_=0 by simp) rfl ?_ (by cases h:mergeA l<;>simp[mergeA,joinA,At.op, *])
   have hb:chkE t v=0:=ha
   rw[opF_40];simp[prE,prP,prL,hb]
  |sf b=>
   refine hord 29 (b::(atsB l++tl)) {kind:=29,fa:=b} rfl (show ¬_=0 by simp) rfl ?_ (by cases h:mergeA l<;>simp[mergeA,joinA,At.op, *])
   rw[opF_29];simp
  |sfe p=>
   have hb:p.length≤255∧allP p:=ha
   refine hord 41 (UInt8.ofNat p.length::(flatP p++(atsB l++tl))) {kind:=41,pairs:=p} rfl (show ¬_=0 by simp) (by simp[At.bytes]) (opF_sfe p hb.1 hb.2 _) (by cases h:mergeA l<;>simp[mergeA,joinA,At.op, *])
theorem foldl_merge {S:Type} (f:S→Op→S) (hf:∀s b t,f s (txtOp (b::t))=f (f s (txtOp [b])) (txtOp t)) (h0:∀s (o:Op),o.kind=0→f s o=f s (txtOp o.text)):∀(l:List At) (s:S),(mergeA l).foldl f s=(l.map At.op).foldl f s
 |[],_=>rfl
 |a::l,s=>by
  have ih:=foldl_merge f hf h0 l
  have hm:mergeA (a::l)=joinA a (mergeA l):=rfl
  have hp:joinA a (mergeA l)=a.op::mergeA l→(mergeA (a::l)).foldl f s=((a::l).map At.op).foldl f s:=fun e=>by
   rw[hm,e,List.foldl_cons,ih];rfl
  cases a with
  |ch b=>
   cases hml:mergeA l with
   |nil=>exact hp (by rw[hml];rfl)
   |cons o os=>
    by_cases hk:o.kind=0
    ·rw[hm,hml,List.map_cons,List.foldl_cons,←ih,hml]
     show List.foldl f s (if o.kind=0 then _ else _)=_
     rw[if_pos hk,List.foldl_cons,List.foldl_cons,hf,h0 _ o hk];rfl
    ·exact hp (by rw[hml,joinA_ch b o os hk];rfl)
  |ge b=>exact hp (by cases mergeA l<;>rfl)
  |sa t v=>exact hp (by cases mergeA l<;>rfl)
  |sf b=>exact hp (by cases mergeA l<;>rfl)
  |sfe p=>exact hp (by cases mergeA l<;>rfl)
def opFine (o:Op):Prop:=(o.kind=0∨o.kind=8∨o.kind=40∨o.kind=29∨o.kind=41)∧allP o.pairs
theorem opFine_op {a:At} (h:a.ok):opFine a.op:=by
 cases a with
 |ch b=>exact ⟨by simp[At.op,txtOp],by intro x hx;simp[At.op,txtOp] at hx⟩
 |ge b=>exact ⟨by simp[At.op],by intro x hx;simp[At.op] at hx⟩
 |sa t v=>exact ⟨by simp[At.op],by intro x hx;simp[At.op] at hx;rw[hx];exact h⟩
 |sf b=>exact ⟨by simp[At.op],by intro x hx;simp[At.op] at hx⟩
 |sfe p=>exact ⟨by simp[At.op],h.2⟩
theorem mergeA_fine:∀(l:List At),(∀a∈l,a.ok)→∀o∈mergeA l,opFine o
 |[],_,o,ho=>by cases ho
 |a::l,hok,o,ho=>by
  have ih:=mergeA_fine l fun x hx=>hok x (by simp[hx])
  have ha:=opFine_op (hok a (by simp))
  have hm:mergeA (a::l)=joinA a (mergeA l):=rfl
  rw[hm] at ho
  have hp:joinA a (mergeA l)=a.op::mergeA l→opFine o:=fun e=>by
   rw[e,List.mem_cons] at ho
   rcases ho with rfl|ho
   ·exact ha
   ·exact ih o ho
  cases a with
  |ch b=>
   cases hml:mergeA l with
   |nil=>exact hp (by rw[hml];rfl)
   |cons p os=>
    by_cases hk:p.kind=0
    ·rw[hml] at ho
     have e:joinA (.ch b) (p::os)=txtOp (b::p.text)::os:=if_pos hk
     rw[e,List.mem_cons] at ho
     rcases ho with rfl|ho
     ·exact ⟨.inl rfl,by intro x hx;simp[txtOp] at hx⟩
     ·exact ih o (by rw[hml];simp[ho])
    ·exact hp (by rw[hml,joinA_ch b p os hk];rfl)
  |ge b=>exact hp (by cases mergeA l<;>rfl)
  |sa t v=>exact hp (by cases mergeA l<;>rfl)
  |sf b=>exact hp (by cases mergeA l<;>rfl)
  |sfe p=>exact hp (by cases mergeA l<;>rfl)
def appliedT (c:Cell) (l:List (UInt8×UInt8)):Cell:=l.foldl (fun c x=>applyP c x.1 x.2) c
theorem appliedS_T:∀(l:List (UInt8×UInt8)) (c:Cell),allP l→appliedS c l=some (appliedT c l)
 |[],_,_=>rfl
 |x::l,c,h=>by
  have hx:=h x (by simp)
  unfold appliedS
  rw[if_pos hx,appliedS_T l _ fun y hy=>h y (by simp[hy])];rfl
def pairsC (c:Cell):List (UInt8×UInt8):=(192,six (c.fa&&&61).toNat)::diffP .zero c
def pcA (mode:Nat) (last c:Cell):List At:=
 if c.attr=true then (if mode=0 then [.sf (six c.fa.toNat)] else [.sfe (pairsC c)])
 else if mode=2 then (diffP last c).map (fun x=> .sa x.1 x.2)++[.ch (codeB c.char)]
 else [if c.set=0xf1 then .ge (codeB c.char) else .ch (codeB c.char)]
def lastC (mode:Nat) (last c:Cell):Cell:=if c.attr=true∨¬mode=2 then last else c
def cellsAt (mode:Nat):Cell→List Cell→List At
 |_,[]=>[]
 |last,c::l=>pcA mode last c++cellsAt mode (lastC mode last c) l
def seen (mode:Nat) (c:Cell):Cell:=
 if c.attr=true then (if mode=0 then {attr:=true,fa:=c.fa} else {c with char:=0})
 else if mode=2 then {c with char:=codeB c.char} else {char:=codeB c.char,set:=c.set}
def lk (c:Cell):Cell:= {high:=c.high,color:=c.color,set:=c.set}
def okCell (c:Cell):Prop:=chkE 0x41 c.high=0∧chkE 0x42 c.color=0∧chkE 0x43 c.set=0
instance (c:Cell):Decidable (okCell c):=by unfold okCell;infer_instance
def looksS (s:Sp):Prop:=∀c∈s.cells,okCell c
instance (s:Sp):Decidable (looksS s):=by unfold looksS;infer_instance
abbrev okC (c:Cell):Prop:=okCell c
def bufT (s:List Cell×Cell) (o:Op):List Cell×Cell:=
 if o.kind=29 then (s.1++[appliedT {attr:=true} [(192,o.fa)]],s.2)
 else if o.kind=41 then (s.1++[appliedT {attr:=true} o.pairs],s.2)
 else if o.kind=8 then (s.1++[{s.2 with char:=o.code,set:=0xf1}],s.2)
 else if o.kind=40 then (s.1,appliedT s.2 o.pairs)
 else (s.1++o.text.map (fun b=> {s.2 with char:=b}),s.2)
theorem codeB_ord (c:UInt8):isOrd (codeB c)=false:=by
 unfold codeB
 split
 ·decide
 ·simp_all
theorem six_byte (b:UInt8):Sp.six (six b.toNat)=Sp.six b:=by revert b;exact all_bytes (p:=fun b=>Sp.six (six b.toNat)=Sp.six b) (by decide+kernel)
theorem six_byte61 (b:UInt8):Sp.six (six (b&&&61).toNat)=Sp.six b:=by revert b;exact all_bytes (p:=fun b=>Sp.six (six (b&&&61).toNat)=Sp.six b) (by decide+kernel)
theorem fitted_fa {c:Cell} (h:fitted c):Sp.six c.fa=c.fa∧(c.attr=true→c.char=0)∧(c.attr=false→c.fa=0):=by
 unfold fitted fit at h
 by_cases ha:c.attr=true
 ·rw[if_pos ha] at h
  refine ⟨congrArg Cell.fa h,fun _=>(congrArg Cell.char h).symm,fun e=>by rw[e] at ha;cases ha⟩
 ·rw[if_neg ha] at h
  have h0:c.fa=0:=(congrArg Cell.fa h).symm
  exact ⟨by rw[h0];rfl,fun e=>absurd e ha,fun _=>h0⟩
theorem apply_fa (c:Cell) (v:UInt8) (h:c.attr=true):applyP c 192 v= {c with fa:=Sp.six v} :=by
 unfold applyP
 rw[if_neg (by decide),if_pos (by decide),if_pos h]
theorem applied_diff (x a c:Cell) (h:x.high=a.high∧x.color=a.color∧x.set=a.set):appliedT x (diffP a c)= {x with high:=c.high,color:=c.color,set:=c.set} :=by
 obtain ⟨h1,h2,h3⟩:=h
 have k1:∀y:Cell,y.high=a.high→appliedT y (d1 a c)= {y with high:=c.high} :=fun y hy=>by
  unfold d1;split
  ·rename_i e;rw[e] at hy;rw[←hy];rfl
  ·rfl
 have k2:∀y:Cell,y.color=a.color→appliedT y (d2 a c)= {y with color:=c.color} :=fun y hy=>by
  unfold d2;split
  ·rename_i e;rw[e] at hy;rw[←hy];rfl
  ·rfl
 have k3:∀y:Cell,y.set=a.set→appliedT y (d3 a c)= {y with set:=c.set} :=fun y hy=>by
  unfold d3;split
  ·rename_i e;rw[e] at hy;rw[←hy];rfl
  ·rfl
 have e:appliedT x (diffP a c)=appliedT (appliedT (appliedT x (d1 a c)) (d2 a c)) (d3 a c):=by
  unfold appliedT diffP;rw[List.foldl_append,List.foldl_append]
 rw[e,k1 x h1,k2 _ (by exact h2),k3 _ (by exact h3)]
theorem applied_pairsC {c:Cell} (hf:fitted c) (ha:c.attr=true):appliedT {attr:=true} (pairsC c)= {c with char:=0} :=by
 obtain ⟨h1,h2,_⟩:=fitted_fa hf
 have e:appliedT {attr:=true} (pairsC c)=appliedT (applyP {attr:=true} 192 (six (c.fa&&&61).toNat)) (diffP .zero c):=rfl
 rw[e,apply_fa _ _ rfl,six_byte61,h1,applied_diff {attr:=true,fa:=c.fa} .zero c ⟨rfl,rfl,rfl⟩]
 cases c
 simp_all
theorem applied_sf {c:Cell} (hf:fitted c):appliedT {attr:=true} [(192,six c.fa.toNat)]= {attr:=true,fa:=c.fa} :=by
 obtain ⟨h1,_,_⟩:=fitted_fa hf
 have e:appliedT {attr:=true} [(192,six c.fa.toNat)]=applyP {attr:=true} 192 (six c.fa.toNat):=rfl
 rw[e,apply_fa _ _ rfl,six_byte,h1]
theorem foldl_sa {S:Type} (f:S→Op→S) (g:S→UInt8×UInt8→S) (h:∀s x,f s (At.op (.sa x.1 x.2))=g s x):∀(l:List (UInt8×UInt8)) (s:S),((l.map fun x=>At.sa x.1 x.2).map At.op).foldl f s=l.foldl g s
 |[],_=>rfl
 |x::l,s=>by rw[List.map_cons,List.map_cons,List.foldl_cons,List.foldl_cons,h,foldl_sa f g h l]
theorem foldl_snd (l:List (UInt8×UInt8)) (x:List Cell) (c:Cell):l.foldl (fun (s:List Cell×Cell) p=>(s.1,applyP s.2 p.1 p.2)) (x,c)=(x,appliedT c l):=by
 induction l generalizing c with
 |nil=>rfl
 |cons p l ih=>rw[List.foldl_cons,ih];rfl
theorem bufT_cell {mode:Nat} {last c:Cell} (hf:fitted c) (hc:okC c) (hl:mode=2∨last= .zero) (out:List Cell):((pcA mode last c).map At.op).foldl bufT (out,lk last)=(out++[seen mode c],lk (lastC mode last c)):=by
 obtain ⟨h1,h2,h3⟩:=fitted_fa hf
 by_cases ha:c.attr=true
 ·have e2:lastC mode last c=last:=by simp[lastC,ha]
  rw[e2]
  by_cases hm:mode=0
  ·have e1:pcA mode last c=[.sf (six c.fa.toNat)]:=by simp[pcA,ha,hm]
   rw[e1]
   show (out++[appliedT {attr:=true} [(192,six c.fa.toNat)]],lk last)=_
   rw[applied_sf hf];simp[seen,ha,hm]
  ·have e1:pcA mode last c=[.sfe (pairsC c)]:=by simp[pcA,ha,hm]
   rw[e1]
   show (out++[appliedT {attr:=true} (pairsC c)],lk last)=_
   rw[applied_pairsC hf ha];simp[seen,ha,hm]
 ·have ha':c.attr=false:=by simpa using ha
  by_cases hm:mode=2
  ·have e1:pcA mode last c=(diffP last c).map (fun x=> .sa x.1 x.2)++[.ch (codeB c.char)]:=by simp[pcA,ha',hm]
   have e2:lastC mode last c=c:=by simp[lastC,ha',hm]
   rw[e1,e2,List.map_append,List.foldl_append,foldl_sa bufT (fun s p=>(s.1,applyP s.2 p.1 p.2)) (fun s x=>rfl),foldl_snd,applied_diff (lk last) last c ⟨rfl,rfl,rfl⟩]
   have h4:=h3 ha'
   show (out++[_],_)=_
   simp only[seen,ha',hm]
   obtain ⟨c1,c2,c3,c4,c5,c6⟩:=c
   simp_all[lk]
  ·have e2:lastC mode last c=last:=by simp[lastC,hm]
   have hz:last= .zero:=hl.resolve_left hm
   subst hz
   rw[e2]
   have e3:seen mode c= {char:=codeB c.char,set:=c.set} :=by simp[seen,ha',hm]
   rw[e3]
   by_cases hs:c.set=0xf1
   ·have e1:pcA mode .zero c=[.ge (codeB c.char)]:=by simp[pcA,ha',hm,hs]
    rw[e1,hs];rfl
   ·have e1:pcA mode .zero c=[.ch (codeB c.char)]:=by simp[pcA,ha',hm,hs]
    have h0:c.set=0:=by
     by_cases hz:c.set=0
     ·exact hz
     ·exfalso
      have h67:okP 67 c.set.toNat:=by
       have:=hc.2.2
       unfold chkE at this
       by_cases hk:okP (67:UInt8).toNat c.set.toNat
       ·exact hk
       ·rw[if_neg hk] at this;cases this
      have:c.set.toNat=0∨c.set.toNat=241:=by
       rcases h67 with h|h|h|h|h
       ·omega
       ·omega
       ·omega
       ·omega
       ·exact h.2
      rcases this with h|h
      ·exact hz (UInt8.toNat_inj.1 h)
      ·exact hs (UInt8.toNat_inj.1 h)
    rw[e1,h0];rfl
theorem bufT_cells {mode:Nat} :∀(l:List Cell) (last:Cell) (out:List Cell),(∀c∈l,fitted c∧okC c)→(mode=2∨last= .zero)→(((cellsAt mode last l).map At.op).foldl bufT (out,lk last)).1=out++l.map (seen mode)
 |[],_,out,_,_=>by simp[cellsAt]
 |c::l,last,out,h,hl=>by
  have hc:=h c (by simp)
  unfold cellsAt
  rw[List.map_append,List.foldl_append,bufT_cell hc.1 hc.2 hl,bufT_cells l _ _ (fun x hx=>h x (by simp[hx]))]
  ·simp
  ·by_cases hm:mode=2
   ·exact .inl hm
   ·right;simpa[lastC,hm] using hl.resolve_left hm
theorem ok_diff {c:Cell} (hc:okC c) (last:Cell):allP (diffP last c):=by
 obtain ⟨k1,k2,k3⟩:=hc
 intro x hx
 unfold diffP at hx
 rw[List.mem_append,List.mem_append] at hx
 rcases hx with hx|hx|hx
 ·unfold d1 at hx;split at hx
  ·cases hx
  ·rw[List.mem_singleton.1 hx];exact k1
 ·unfold d2 at hx;split at hx
  ·cases hx
  ·rw[List.mem_singleton.1 hx];exact k2
 ·unfold d3 at hx;split at hx
  ·cases hx
  ·rw[List.mem_singleton.1 hx];exact k3
theorem pairsC_ok {c:Cell} (hc:okC c):(pairsC c).length≤255∧allP (pairsC c):=by
 have hl:=diffP_length .zero c
 refine ⟨by unfold pairsC;simp;omega,fun x hx=> ?_⟩
 unfold pairsC at hx
 rcases List.mem_cons.1 hx with rfl|hx
 ·unfold chkE;rw[if_pos (.inr (.inl rfl))]
 ·exact ok_diff hc _ x hx
theorem pcA_ok {mode:Nat} {last c:Cell} (hc:okC c):∀a∈pcA mode last c,a.ok:=by
 intro a ha
 unfold pcA at ha
 split at ha
 ·split at ha
  ·rw[List.mem_singleton.1 ha];trivial
  ·rw[List.mem_singleton.1 ha];exact pairsC_ok hc
 ·split at ha
  ·rcases List.mem_append.1 ha with h|h
   ·obtain ⟨x,hx,rfl⟩:=List.mem_map.1 h
    exact ok_diff hc last x hx
   ·rw[List.mem_singleton.1 h];exact codeB_ord _
  ·rw[List.mem_singleton.1 ha]
   split<;>exact codeB_ord _
theorem cellsAt_ok {mode:Nat} :∀(l:List Cell) (last:Cell),(∀c∈l,okC c)→∀a∈cellsAt mode last l,a.ok
 |[],_,_,a,ha=>by cases ha
 |c::l,last,h,a,ha=>by
  unfold cellsAt at ha
  rcases List.mem_append.1 ha with h1|h1
  ·exact pcA_ok (h c (by simp)) a h1
  ·exact cellsAt_ok l _ (fun x hx=>h x (by simp[hx])) a h1
def penT (p:Pen) (o:Op):Pen:= {(p.do o).1 with texts:=false}
theorem do_fine {p:Pen} {o:Op} (h:opFine o) (b:Bool):(p.do o).2=0∧({p with texts:=b}.do o).1= {(p.do o).1 with texts:=b} :=by
 obtain ⟨hk,hp⟩:=h
 have hput:∀(l:List UInt8) (p:Pen),l.foldl (fun p c=>p.put c false) {p with texts:=b} = {l.foldl (fun p c=>p.put c false) p with texts:=b} :=by
  intro l
  induction l with
  |nil=>intro _;rfl
  |cons c l ih=>intro p;rw[List.foldl_cons,List.foldl_cons];exact ih (p.put c false)
 unfold Pen.do
 rcases hk with e|e|e|e|e
 ·rw[if_pos e,if_pos e];exact ⟨rfl,hput _ _⟩
 ·simp only[e]
  exact ⟨rfl,rfl⟩
 ·simp only[e,appliedS_T _ _ hp]
  exact ⟨rfl,rfl⟩
 ·simp only[e]
  exact ⟨rfl,rfl⟩
 ·simp only[e,Pen.attribute,appliedS_T _ _ hp]
  exact ⟨rfl,rfl⟩
theorem runOps_fine:∀(os:List Op) (p:Pen) (k:Nat),(∀o∈os,opFine o)→∃t,runOps os p k=({os.foldl penT {p with texts:=false} with texts:=t},k+os.length,0)
 |[],p,k,_=>⟨p.texts,rfl⟩
 |o::os,p,k,h=>by
  obtain ⟨h1,h2⟩:=do_fine (p:=p) (h o (by simp)) false
  have e:runOps (o::os) p k=if (p.do o).2≠0 then ((p.do o).1,k,(p.do o).2) else runOps os ((p.do o).1.mark o) (k+1):=rfl
  rw[e,if_neg (by simp[h1])]
  obtain ⟨t,ih⟩:=runOps_fine os ((p.do o).1.mark o) (k+1) fun x hx=>h x (by simp[hx])
  refine ⟨t, ?_⟩
  rw[ih,List.foldl_cons]
  have e2:penT {p with texts:=false} o= {(p.do o).1.mark o with texts:=false} :=by unfold penT;rw[h2];rfl
  rw[e2,List.length_cons,Nat.add_assoc,Nat.add_comm 1]
theorem penT_sa {p:Pen} {t v:UInt8} (h:chkE t v=0):penT p (At.op (.sa t v))= {p with look:=applyP p.look t v,texts:=false} :=by
 have:appliedS p.look [(t,v)]=some (applyP p.look t v):=appliedS_T [(t,v)] p.look fun x hx=>by rw[List.mem_singleton.1 hx];exact h
 unfold penT Pen.do
 simp only[At.op,this]
 rfl
theorem foldl_look:∀(l:List (UInt8×UInt8)) (p:Pen),allP l→p.texts=false→((l.map fun x=>At.sa x.1 x.2).map At.op).foldl penT p= {p with look:=appliedT p.look l}
 |[],p,_,_=>rfl
 |x::l,p,h,ht=>by
  rw[List.map_cons,List.map_cons,List.foldl_cons,penT_sa (h x (by simp)),foldl_look l _ (fun y hy=>h y (by simp[hy])) rfl]
  cases p;simp only at ht;subst ht;rfl
theorem fit_seen {mode:Nat} {c:Cell} (hf:fitted c):fit (seen mode c)=seen mode c:=by
 obtain ⟨h1,h2,h3⟩:=fitted_fa hf
 unfold seen
 by_cases ha:c.attr=true
 ·have h4:Sp.six c.fa=c.fa:=h1
  rw[if_pos ha]
  split<;>simp[fit,ha,h4]
 ·have ha':c.attr=false:=by simpa using ha
  have h4:=h3 ha'
  rw[if_neg ha]
  split<;>simp[fit,ha',h4]
theorem penT_cell {mode:Nat} {last c:Cell} (hf:fitted c) (hc:okC c) (hl:mode=2∨last= .zero) (s:Sp) (n:Nat):
  ((pcA mode last c).map At.op).foldl penT ⟨s,n,lk last,false⟩=⟨s.put1 (wrap s.n n) (seen mode c),(n+1) % s.n,lk (lastC mode last c),false⟩:=by
 obtain ⟨h1,h2,h3⟩:=fitted_fa hf
 have hfit:=fit_seen (mode:=mode) hf
 have fin:∀(d:Cell),fit d=seen mode c→∀k:Cell,Pen.step ⟨s,n,k,false⟩ (s.set n d)=⟨s.put1 (wrap s.n n) (seen mode c),(n+1) % s.n,k,false⟩:=fun d hd k=>by
  unfold Pen.step Sp.set;rw[hd]
 by_cases ha:c.attr=true
 ·have e2:lastC mode last c=last:=by simp[lastC,ha]
  rw[e2]
  by_cases hm:mode=0
  ·have e1:pcA mode last c=[.sf (six c.fa.toNat)]:=by simp[pcA,ha,hm]
   rw[e1]
   refine fin {attr:=true,fa:=six c.fa.toNat} ?_ (lk last)
   simp[fit,seen,ha,hm,six_byte,h1]
  ·have e1:pcA mode last c=[.sfe (pairsC c)]:=by simp[pcA,ha,hm]
   have e4:seen mode c= {c with char:=0} :=by simp[seen,ha,hm]
   have hd:=applied_pairsC hf ha
   have hpc:=appliedS_T (pairsC c) {attr:=true} (pairsC_ok hc).2
   rw[hd,←e4] at hpc
   rw[e1]
   have e5:penT ⟨s,n,lk last,false⟩ (At.op (.sfe (pairsC c)))=Pen.step ⟨s,n,lk last,false⟩ (s.set n (seen mode c)):=by
    unfold penT Pen.do
    simp only[At.op,Pen.attribute,hpc]
    rfl
   rw[List.map_cons,List.map_nil,List.foldl_cons,List.foldl_nil,e5]
   exact fin _ hfit _
 ·have ha':c.attr=false:=by simpa using ha
  by_cases hm:mode=2
  ·have e1:pcA mode last c=(diffP last c).map (fun x=> .sa x.1 x.2)++[.ch (codeB c.char)]:=by simp[pcA,ha',hm]
   have e2:lastC mode last c=c:=by simp[lastC,ha',hm]
   rw[e1,e2,List.map_append,List.foldl_append,foldl_look _ _ (ok_diff hc last) rfl,applied_diff (lk last) last c ⟨rfl,rfl,rfl⟩]
   have e4:lookW (lk c) (codeB c.char) false=seen mode c:=by
    have h4:=h3 ha'
    unfold seen
    rw[if_neg ha,if_pos hm]
    obtain ⟨c1,c2,c3,c4,c5,c6⟩:=c
    simp_all[lk,lookW]
   have e5:({lk last with high:=c.high,color:=c.color,set:=c.set} :Cell)=lk c:=rfl
   show Pen.step ⟨s,n,_,false⟩ (s.set n (lookW _ _ false))=_
   simp only[e5,e4]
   exact fin _ hfit _
  ·have e2:lastC mode last c=last:=by simp[lastC,hm]
   have hz:last= .zero:=hl.resolve_left hm
   have hb:=bufT_cell (mode:=mode) hf hc hl []
   subst hz
   rw[e2] at hb⊢
   by_cases hs:c.set=0xf1
   ·have e1:pcA mode .zero c=[.ge (codeB c.char)]:=by simp[pcA,ha',hm,hs]
    rw[e1] at hb⊢
    have e4:lookW (lk .zero) (codeB c.char) true=seen mode c:=(List.cons.inj (Prod.mk.inj hb).1).1
    show Pen.step ⟨s,n,lk .zero,false⟩ (s.set n (lookW (lk .zero) (codeB c.char) true))=_
    simp only[e4]
    exact fin _ hfit _
   ·have e1:pcA mode .zero c=[.ch (codeB c.char)]:=by simp[pcA,ha',hm,hs]
    rw[e1] at hb⊢
    have e4:lookW (lk .zero) (codeB c.char) false=seen mode c:=(List.cons.inj (Prod.mk.inj hb).1).1
    show Pen.step ⟨s,n,lk .zero,false⟩ (s.set n (lookW (lk .zero) (codeB c.char) false))=_
    simp only[e4]
    exact fin _ hfit _
theorem penT_cells {mode:Nat} :∀(l:List Cell) (last:Cell) (s:Sp) (d:List Cell),(∀c∈l,fitted c∧okC c)→(mode=2∨last= .zero)→s.cells=d++List.replicate l.length .zero→s.n=d.length+l.length→
  ∃k,((cellsAt mode last l).map At.op).foldl penT ⟨s,d.length % s.n,lk last,false⟩=⟨{s with cells:=d++l.map (seen mode)},0,k,false⟩
 |[],last,s,d,_,_,hs,hn=>by
  refine ⟨lk last, ?_⟩
  simp only[List.length_nil,List.replicate_zero,List.append_nil,Nat.add_zero,List.map_nil] at*
  unfold cellsAt
  rw[←hn,Nat.mod_self,←hs];rfl
 |c::l,last,s,d,h,hl,hs,hn=>by
  have hc:=h c (by simp)
  have hlt:d.length<s.n:=by rw[hn];simp
  have hmod:d.length % s.n=d.length:=Nat.mod_eq_of_lt hlt
  have hw:wrap s.n (d.length:Int)=d.length:=wrap_of_lt hlt
  unfold cellsAt
  rw[List.map_append,List.foldl_append,hmod,penT_cell hc.1 hc.2 hl,hw]
  have hl2:mode=2∨lastC mode last c= .zero:=by
   by_cases hm:mode=2
   ·exact .inl hm
   ·right;simpa[lastC,hm] using hl.resolve_left hm
  have hcs:(s.put1 d.length (seen mode c)).cells=(d++[seen mode c])++List.replicate l.length .zero:=by
   show s.cells.set d.length _=_
   rw[hs,List.length_cons,List.replicate_succ,List.set_append_right _ _ (Nat.le_refl _),Nat.sub_self]
   simp
  obtain ⟨k,ih⟩:=penT_cells l (lastC mode last c) (s.put1 d.length (seen mode c)) (d++[seen mode c]) (fun x hx=>h x (by simp[hx])) hl2 hcs (by rw[Sp.n_put1,hn];simp;omega)
  refine ⟨k, ?_⟩
  have e1:(d++[seen mode c]).length % (s.put1 d.length (seen mode c)).n=(d.length+1) % s.n:=by rw[Sp.n_put1];simp
  rw[e1] at ih
  rw[ih]
  simp[Sp.put1]
theorem penT_text (p:Pen) (b:UInt8) (t:List UInt8):penT p (txtOp (b::t))=penT (penT p (txtOp [b])) (txtOp t):=by
 have hput:∀(l:List UInt8) (p:Pen), {l.foldl (fun p c=>p.put c false) {p with texts:=false} with texts:=false} = {l.foldl (fun p c=>p.put c false) p with texts:=false} :=by
  intro l
  induction l with
  |nil=>intro _;rfl
  |cons c l ih=>intro p;rw[List.foldl_cons,List.foldl_cons];exact ih (p.put c false)
 exact (hput t (p.put b false)).symm
theorem bufT_text (s:List Cell×Cell) (b:UInt8) (t:List UInt8):bufT s (txtOp (b::t))=bufT (bufT s (txtOp [b])) (txtOp t):=by
 simp[bufT,txtOp]
end Go.Proofs.YtjnopnpkfhopbaaGreatDoor
