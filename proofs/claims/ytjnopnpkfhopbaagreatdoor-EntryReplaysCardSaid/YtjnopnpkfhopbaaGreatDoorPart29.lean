/-
 A report of bytes.
-/
import Derived.Test.YtjnopnpkfhopbaaGreatDoorPart28
set_option linter.unusedSimpArgs false
set_option linter.unusedVariables false
set_option maxRecDepth 8000
set_option maxHeartbeats 8000000
namespace Go.Proofs.YtjnopnpkfhopbaaGreatDoor
open Go Go.AL
def addE (es:List En) (t:List UInt8):List En:=match es.getLast? with
 |none=>[⟨0,t⟩]
 |some last=>es.dropLast++[{last with text:=last.text++t}]
def entS (es:List En) (o:Op):Option (List En):=
 if o.kind=17 then some (es++[⟨o.addr,[]⟩]) else if o.kind=0 then some (addE es o.text) else if o.kind=8 then some (addE es [o.code]) else if o.kind=40 then some es else none
def entsS (os:List Op):Option (List En):=os.foldlM entS []
theorem addE_more (init:List En) (last:En) (t:List UInt8):addE (init++[last]) t=init++[{last with text:=last.text++t}]:=by
 simp[addE]
theorem entsS_take {os:List Op} {i:Nat} (h:i<os.length) {es:List En} (he:entsS (os.take i)=some es):entsS (os.take (i+1))=entS es os[i]:=by
 rw[entsS,List.take_succ_eq_append_getElem h,List.foldlM_append]
 rw[entsS] at he
 simp[he]
theorem entsS_none {os:List Op} {i:Nat} (h:entsS (os.take i)=none):entsS os=none:=by
 rw[entsS,←List.take_append_drop i os,List.foldlM_append]
 rw[entsS] at h
 simp[h]
def grow (o:Op):Nat:=if o.kind=0 then o.text.length else 1
def textIn (l:List En):Nat:=(l.map fun e=>e.text.length).sum
theorem textIn_append (l k:List En):textIn (l++k)=textIn l+textIn k:=by simp[textIn]
theorem entS_size {es es':List En} {o:Op} (h:entS es o=some es'):textIn es'≤textIn es+grow o∧es'.length≤es.length+1:=by
 have hadd:∀t,textIn (addE es t)≤textIn es+t.length∧(addE es t).length≤es.length+1:=fun t=>by
  rcases List.eq_nil_or_concat es with rfl|⟨init,last,rfl⟩
  ·simp[addE,textIn]
  ·rw[List.concat_eq_append,addE_more,textIn_append,textIn_append]
   simp[textIn];omega
 unfold entS at h
 unfold grow
 split at h
 ·simp at h;subst h;rw[textIn_append];simp[textIn]
 ·split at h
  ·rename_i hk;simp at h;subst h;rw[if_pos hk];exact hadd _
  ·split at h
   ·simp at h;subst h
    rw[if_neg (by assumption)];exact hadd _
   ·split at h
    ·simp at h;subst h;omega
    ·cases h
def growS (os:List Op):Nat:=(os.map grow).sum
theorem entsS_size {os:List Op} {es es':List En} (h:os.foldlM entS es=some es'):textIn es'≤textIn es+growS os∧es'.length≤es.length+os.length:=by
 induction os generalizing es with
 |nil=>simp at h;subst h;simp[growS]
 |cons o os ih=>
  rw[List.foldlM_cons] at h
  cases ho:entS es o with
  |none=>simp[ho] at h
  |some es1=>
   simp[ho] at h
   have h1:=entS_size ho
   have h2:=ih h
   simp only[growS,List.map_cons,List.sum_cons,List.length_cons] at*
   omega
theorem grow_take (os:List Op) (i:Nat):growS (os.take i)≤growS os:=by
 have:os=os.take i++os.drop i:=(List.take_append_drop i os).symm
 have h:growS os=growS (os.take i)+growS (os.drop i):=by
  have h2:∀a b:List Op,growS (a++b)=growS a+growS b:=fun a b=>by simp[growS]
  rw[←h2,←this]
 omega
theorem grow_le {os:List Op} {i:Nat} (h:i<os.length):growS (os.take i)+grow os[i]≤growS os:=by
 have h1:=grow_take os (i+1)
 have h2:∀a b:List Op,growS (a++b)=growS a+growS b:=fun a b=>by simp[growS]
 rw[List.take_succ_eq_append_getElem h,h2] at h1
 exact h1
theorem Step.grow {l l':List UInt8} {o:Op} (h:Step l o l' 0):grow o+l'.length≤l.length:=by
 have h1:=h.len
 have h2:=(h.wf rfl).2.2
 unfold YtjnopnpkfhopbaaGreatDoor.grow
 split<;>omega
theorem AllS.grow {l:List UInt8} {os:List Op} (h:AllS l os 0):growS os≤l.length:=by
 generalize he:0=e at h
 induction h with
 |nil=>simp[growS]
 |ok h1 h2 ih=>have:=h1.grow;have:=ih he;simp only[growS,List.map_cons,List.sum_cons] at*;omega
 |bad h1 h2=>exact absurd he.symm h2
def rowT (p cap:Nat) (es:List En):AV:=if es=[] then .lit (.slice none 0 0) else rowN p cap es.length
def objS (τ:Store) (q:Nat) (A B C:AV) (p cap:Nat) (es:List En) (rest:List AV):Store:=if es=[] then τ.upd q [A,B,C, .lit (.slice none 0 0)] else (τ.upd q [A,B,C,rowN p cap es.length]).upd p (esO es++rest)
def TailS (aid:UInt8) (short:Bool) (n:Nat) (rest:List UInt8) (r:Rp) (e:Nat):Prop:=
 ∃os e2,AllS rest os e2∧os.length≤rest.length∧if e2≠0 then e=e2 else match entsS os with
  |some es=>r=⟨aid,short,n,es⟩∧e=0
  |none=>e=4
def PaR (S:Rp→Nat→Prop) (σ:Store) (v:AV) (σ':Store):Prop:=∃ow r e,v= .tuple [rpO ow r, .lit (.int .i64 (e:Nat))]∧σ'=σ∧S r e
def PaO (aid:UInt8) (short:Bool) (n:Nat) (rest:List UInt8) (σ:Store) (v:AV) (σ':Store):Prop:=
 PaR (TailS aid short n rest) σ v σ'∨∃p cap es rest',v= .tuple [.agg [byteA aid, .lit (.bool short), .lit (.int .i64 (n:Nat)),rowT p cap es], .lit (.int .i64 0)]∧TailS aid short n rest ⟨aid,short,n,es⟩ 0∧
  (es=[]→σ'=σ)∧(es≠[]→σ p=none∧(esO es++rest').length=cap*2∧cap≤maxLen∧σ'=σ.upd p (esO es++rest'))
theorem parse_tail (o ob:Bool) (p:List UInt8) (aid:UInt8) (short:Bool) (n:Nat) (rest:List UInt8) (hl:rest.length≤100000) (σ:Store)
  (hb:∀σ,ACalls Tryz.prog 30 [.list false 1 (bytesA p)] σ fun v σ'=>v= .tuple [hdA aid short n, .list ob 1 (bytesA rest), .lit (.int .i64 0)]∧σ'=σ):
  ACalls Tryz.prog 17 [.list o 1 (bytesA p)] σ (PaO aid short n rest σ):=by
 have hh:hdA aid short n= .agg [byteA aid, .lit (.bool short), .lit (.int .i64 n), .lit (.slice none 0 0)]:=rfl
 refine aw st17 pl17 65 Tryz.func17 rfl ?_
 simp
 intro r0 hr0
 refine callK.of (hb _) ?_
 rintro v σ' ⟨rfl,rfl⟩
 simp[-Bool.exists_bool,hh]
 intro q hq
 simp only[ite_none] at hq
 obtain ⟨hqr,hq⟩:=hq
 have hrq:=Ne.symm hqr
 refine callK.of (all_calls false rest _ hl) ?_
 rintro v σ' ⟨ow,os,m,e2,rfl,rfl,hall,hol⟩
 by_cases h2:e2=0
 ·subst h2
  have hos:os.length≤100000:=by omega
  have hgr:=hall.grow
  simp[-Bool.exists_bool]
  refine codeK.loop follows (st:=st17) (plans:=pl17) (X:=Nat×Nat×Nat×List En×List AV) (fun x=>x.1≤os.length∧entsS (os.take x.1)=some x.2.2.2.1∧
    (x.2.2.2.1≠[]→σ x.2.1=none∧x.2.1≠r0∧x.2.1≠q∧(esO x.2.2.2.1++x.2.2.2.2).length=x.2.2.1*2∧x.2.2.1≤maxLen))
   (fun x=>[(2,ptrA r0),(4,ptrA q),(31, .list false 7 (opsA os)),(32, .lit (.int .i64 os.length)),(33, .lit (.int .i64 x.1))])
   (fun x=>objS (σ.upd r0 [.lit (.int .u8 0), .lit (.bool false), .lit (.int .i64 0), .list true 2 []]) q (byteA aid) (.lit (.bool short)) (.lit (.int .i64 n)) x.2.1 x.2.2.1 x.2.2.2.1 x.2.2.2.2)
   (fun x=>os.length-x.1) (0,0,0,[],[]) (by kernel_rfl) (by simp[entsS]) (by simp) (by simp[objS]) fun x hx=> ?_
  obtain ⟨i,pp,cap,es,rr⟩:=x
  obtain ⟨hi,hes,hrow⟩:=hx
  dsimp only at hi hes hrow⊢
  by_cases hlt:i<os.length
  ·have hsz:=entsS_size (by simpa[entsS] using hes)
   have hg:=grow_le hlt
   have hg2:=opsA_get os i hlt
   have hnx:=entsS_take hlt hes
   have hw:IntKind.i64.wrap ((i:Int)+1)=((i+1:Nat):Int):=wrap_i64 (by omega) (by omega)
   have hnone:=fun h=>entsS_none (os:=os) (i:=i+1) h
   obtain ⟨op,hop⟩:∃op,os[i]=op:=⟨_,rfl⟩
   rw[hop] at hg hg2 hnx
   have hopc:opA op= .agg (opC op):=rfl
   by_cases hne:es=[]
   ·subst hne
    have hfr:∀c:Nat,(if c=q then some [byteA aid,AV.lit (.bool short),AV.lit (.int .i64 (n:Int)),AV.lit (.slice none 0 0)] else if c=r0 then some [AV.lit (.int .u8 0),AV.lit (.bool false),AV.lit (.int .i64 0),AV.list true 2 []] else σ c)=none→c≠q∧q≠c∧c≠r0∧r0≠c∧σ c=none:=fun c hc=>by
     simp only[ite_none] at hc;exact ⟨hc.1,Ne.symm hc.1,hc.2.1,Ne.symm hc.2.1,hc.2.2⟩
    have hfin:∀ {es':List En} {p1 cap1:Nat} {rr1:List AV} {τ:Store},entS [] op=some es'→(es'≠[]→σ p1=none∧¬p1=r0∧¬p1=q∧(esO es').length+rr1.length=cap1*2∧cap1≤9223372036854775807)→
      Store.sub (objS (σ.upd r0 [.lit (.int .u8 0), .lit (.bool false), .lit (.int .i64 0), .list true 2 []]) q (byteA aid) (.lit (.bool short)) (.lit (.int .i64 n)) p1 cap1 es' rr1) τ→
      ∃(a a_1 a_2:Nat) (a_3:List En) (b:List AV),(a≤os.length∧entsS (os.take a)=some a_3∧(¬a_3=[]→σ a_1=none∧¬a_1=r0∧¬a_1=q∧(esO a_3).length+b.length=a_2*2∧a_2≤9223372036854775807))∧os.length-a<os.length-i∧
       (AV.lit (.int .i64 (IntKind.i64.wrap ((i:Int)+1)))).le (.lit (.int .i64 (a:Nat)))∧Store.sub (objS (σ.upd r0 [.lit (.int .u8 0), .lit (.bool false), .lit (.int .i64 0), .list true 2 []]) q (byteA aid) (.lit (.bool short)) (.lit (.int .i64 n)) a_1 a_2 a_3 b) τ:=fun h1 h2 h3=>
     ⟨i+1,_,_,_,_,⟨by omega,by rw[hnx];exact h1,h2⟩,by omega,by rw[hw];exact AV.le_refl _,h3⟩
    simp only[objS] at hfin
    by_cases k17:op.kind=17
    ·have hes':entS [] op=some [⟨op.addr,[]⟩]:=by simp[entS,k17]
     simp[hlt,hg2,hopc,opC,objS,k17]
     intro c hc
     obtain ⟨c1,c2,c3,c4,c5⟩:=hfr c hc
     simp[c2,rowOf,srcOf]
     intro b hb p1 cap1 hp1 h1 h3
     simp only[ite_none] at hb hp1
     obtain ⟨b1,b2,b3,b4⟩:=hb
     obtain ⟨p0,p1',p2,p3,p4⟩:=hp1
     simp[Ne.symm b2,Ne.symm p2]
     refine hfin (p1:=p1) (cap1:=cap1) (rr1:=List.replicate ((cap1-1)*2) .top) hes' (fun _=>⟨p4,p3,p2,by simp[esO_one];omega,h3⟩) ?_
     rw[if_neg (by simp)]
     simp[esO_one,rowN]
     (intro q;simp only[Store.upd,Store.del];(repeat' split)<;>first|exact Or.inr rfl|exact Or.inl rfl|(exfalso;omega)|(left;subst_vars;assumption)|simp_all)
    ·by_cases k0:op.kind=0
     ·have hes':entS [] op=some [⟨0,op.text⟩]:=by simp[entS,k0,addE]
      have htl:op.text.length≤1000000:=by simp only[grow,k0,if_true] at hg;omega
      simp[hlt,hg2,hopc,opC,objS,k0]
      intro c hc
      obtain ⟨c1,c2,c3,c4,c5⟩:=hfr c hc
      refine callK.of (add_nil q (byteA aid) (.lit (.bool short)) (.lit (.int .i64 n)) false op.text htl _ (by simp[c2])) ?_
      rintro v σ' ⟨p1,rfl,hp1,rfl⟩
      simp only[supd_apply,ite_none] at hp1
      obtain ⟨p1',p2,p3,p4⟩:=hp1
      simp
      refine hfin (p1:=p1) (cap1:=1) (rr1:=[]) hes' (fun _=>⟨p4,p3,p2,by simp[esO_one],by omega⟩) ?_
      rw[if_neg (by simp)]
      simp[esO_one,rowN]
      (intro q;simp only[Store.upd,Store.del];(repeat' split)<;>first|exact Or.inr rfl|exact Or.inl rfl|(exfalso;omega)|(left;subst_vars;assumption)|simp_all)
     ·by_cases k8:op.kind=8
      ·have hes':entS [] op=some [⟨0,[op.code]⟩]:=by simp[entS,k8,addE]
       simp[hlt,hg2,hopc,opC,objS,k8]
       intro c hc
       obtain ⟨c1,c2,c3,c4,c5⟩:=hfr c hc
       refine callK.of (add_nil q (byteA aid) (.lit (.bool short)) (.lit (.int .i64 n)) true [op.code] (by simp) _ (by simp[c2])) ?_
       rintro v σ' ⟨p1,rfl,hp1,rfl⟩
       simp only[supd_apply,ite_none] at hp1
       obtain ⟨p1',p2,p3,p4⟩:=hp1
       simp
       refine hfin (p1:=p1) (cap1:=1) (rr1:=[]) hes' (fun _=>⟨p4,p3,p2,by simp[esO_one],by omega⟩) ?_
       rw[if_neg (by simp)]
       simp[esO_one,rowN]
       (intro q;simp only[Store.upd,Store.del];(repeat' split)<;>first|exact Or.inr rfl|exact Or.inl rfl|(exfalso;omega)|(left;subst_vars;assumption)|simp_all)
      ·by_cases k40:op.kind=40
       ·have hes':entS [] op=some []:=by simp[entS,k40]
        simp[hlt,hg2,hopc,opC,objS,k40]
        intro c hc
        obtain ⟨c1,c2,c3,c4,c5⟩:=hfr c hc
        refine hfin (p1:=0) (cap1:=0) (rr1:=[]) hes' (fun h=>absurd rfl h) ?_
        rw[if_pos rfl]
        (intro q;simp only[Store.upd,Store.del];(repeat' split)<;>first|exact Or.inr rfl|exact Or.inl rfl|(exfalso;omega)|(left;subst_vars;assumption)|simp_all)
       ·have k17':¬(op.kind:Int)=17:=by omega
        have k0':¬(op.kind:Int)=0:=by omega
        have k8':¬(op.kind:Int)=8:=by omega
        have k40':¬(op.kind:Int)=40:=by omega
        have hes':entS [] op=none:=by simp[entS,k17,k0,k8,k40]
        have hT:TailS aid short n rest ⟨0,false,0,[]⟩ 4:=⟨os,0,hall,hol,by simp[hnone (hnx.trans hes')]⟩
        simp[hlt,hg2,hopc,opC,objS,k0,k17',k8',k40',hrq]
        intro c hc
        obtain ⟨c1,c2,c3,c4,c5⟩:=hfr c hc
        simp[c4]
        refine ⟨_,AV.le_refl _,σ, ?_, .inl ⟨false,⟨0,false,0,[]⟩,4,rfl,rfl,hT⟩⟩
        (intro q;simp only[Store.upd,Store.del];(repeat' split)<;>first|exact Or.inr rfl|exact Or.inl rfl|(exfalso;omega)|(left;subst_vars;assumption)|simp_all)
   ·obtain ⟨init,last,hil⟩:∃init last,es=init++[last]:=by
     rcases List.eq_nil_or_concat es with h|⟨init,last,h⟩
     ·exact absurd h hne
     ·exact ⟨init,last,by rw[h,List.concat_eq_append]⟩
    subst hil
    obtain ⟨p1,p2,p3,p4,p5⟩:=hrow hne
    have hesl:(init++[last]).length=init.length+1:=by simp
    have h2r:=Ne.symm p2
    have h3r:=Ne.symm p3
    have hti:last.text.length≤100000:=by
     have:=hsz.1;rw[textIn_append] at this;simp[textIn] at this;omega
    have hil:init.length≤100000:=by
     have:=hsz.2;simp at this;omega
    have hcl:init.length+1≤cap:=by
     rw[List.length_append,esO_length,hesl] at p4;omega
    have hfr:∀c:Nat,(if c=pp then some (esO (init++[last])++rr) else if c=q then some [byteA aid,AV.lit (.bool short),AV.lit (.int .i64 (n:Int)),rowN pp cap (init.length+1)] else if c=r0 then some [AV.lit (.int .u8 0),AV.lit (.bool false),AV.lit (.int .i64 0),AV.list true 2 []] else σ c)=none→c≠pp∧c≠q∧c≠r0∧σ c=none∧pp≠c∧q≠c∧r0≠c:=fun c hc=>by
     simp only[ite_none] at hc;exact ⟨hc.1,hc.2.1,hc.2.2.1,hc.2.2.2,Ne.symm hc.1,Ne.symm hc.2.1,Ne.symm hc.2.2.1⟩
    have hfin:∀ {es':List En} {p1 cap1:Nat} {rr1:List AV} {τ:Store},entS (init++[last]) op=some es'→(es'≠[]→σ p1=none∧¬p1=r0∧¬p1=q∧(esO es').length+rr1.length=cap1*2∧cap1≤9223372036854775807)→
      Store.sub (objS (σ.upd r0 [.lit (.int .u8 0), .lit (.bool false), .lit (.int .i64 0), .list true 2 []]) q (byteA aid) (.lit (.bool short)) (.lit (.int .i64 n)) p1 cap1 es' rr1) τ→
      ∃(a a_1 a_2:Nat) (a_3:List En) (b:List AV),(a≤os.length∧entsS (os.take a)=some a_3∧(¬a_3=[]→σ a_1=none∧¬a_1=r0∧¬a_1=q∧(esO a_3).length+b.length=a_2*2∧a_2≤9223372036854775807))∧os.length-a<os.length-i∧
       (AV.lit (.int .i64 (IntKind.i64.wrap ((i:Int)+1)))).le (.lit (.int .i64 (a:Nat)))∧Store.sub (objS (σ.upd r0 [.lit (.int .u8 0), .lit (.bool false), .lit (.int .i64 0), .list true 2 []]) q (byteA aid) (.lit (.bool short)) (.lit (.int .i64 n)) a_1 a_2 a_3 b) τ:=fun h1 h2 h3=>
     ⟨i+1,_,_,_,_,⟨by omega,by rw[hnx];exact h1,h2⟩,by omega,by rw[hw];exact AV.le_refl _,h3⟩
    have hobj:objS (σ.upd r0 [.lit (.int .u8 0), .lit (.bool false), .lit (.int .i64 0), .list true 2 []]) q (byteA aid) (.lit (.bool short)) (.lit (.int .i64 n)) pp cap (init++[last]) rr=
      ((σ.upd r0 [.lit (.int .u8 0), .lit (.bool false), .lit (.int .i64 0), .list true 2 []]).upd q [byteA aid, .lit (.bool short), .lit (.int .i64 n),rowN pp cap (init.length+1)]).upd pp (esO (init++[last])++rr):=by
     rw[objS,if_neg hne,hesl]
    rw[hobj]
    have htk:(esO (init++[last])++rr).take ((init.length+1)*2)=esO (init++[last]):=by
     have:=take_esO (init++[last]) rr;rwa[hesl] at this
    have hlb:(esO (init++[last])++rr).length=cap*2:=p4
    have p5':cap≤9223372036854775807:=p5
    have hrN:rowN pp cap (init.length+1)= .lit (.slice (some ⟨pp,0,none⟩) (init.length+1) cap):=rfl
    by_cases k17:op.kind=17
    ·have hes':entS (init++[last]) op=some ((init++[last])++[⟨op.addr,[]⟩]):=by simp[entS,k17]
     rw[hrN]
     generalize hL:esO (init++[last])++rr=L at*
     simp[hlt,hg2,hopc,opC,k17,h3r]
     intro c hc
     obtain ⟨c1,c2,c3,c4,c5,c6,c7⟩:=hfr c (by simpa[hrN] using hc)
     simp[c5,c6]
     intro b hb
     simp only[ite_none] at hb
     obtain ⟨b1,b2,b3,b4,b5⟩:=hb
     simp[h3r,c6,hlb,hcl,htk,p5',srcOf,Ne.symm b2,Ne.symm b3]
     refine ⟨by omega,by omega,fun d cap1 hd h1 h3=> ?_⟩
     have hd':¬d=b∧¬d=c∧¬d=q∧¬d=r0∧σ d=none:=by
      rcases hd with rfl|hd
      ·exact ⟨Ne.symm b2,c5,p3,p2,p1⟩
      ·simp only[ite_none] at hd
       exact ⟨hd.1,hd.2.1,hd.2.2.2.1,hd.2.2.2.2.1,hd.2.2.2.2.2⟩
     obtain ⟨d1,d2,d3,d4,d5⟩:=hd'
     simp[Ne.symm d3]
     refine hfin (p1:=d) (cap1:=cap1) (rr1:=List.replicate ((cap1-(init.length+1+1))*2) .top) hes' (fun _=>⟨d5,d4,d3,by rw[esO_length];simp;omega,h3⟩) ?_
     rw[objS,if_neg (by simp)]
     rw[esO_append (init++[last]),esO_one]
     simp only[rowN,List.append_assoc,List.cons_append,List.nil_append,List.length_append,List.length_cons,List.length_nil]
     (intro q;simp only[Store.upd,Store.del];(repeat' split)<;>first|exact Or.inr rfl|exact Or.inl rfl|(exfalso;omega)|(left;subst_vars;assumption)|simp_all)
    ·by_cases k0:op.kind=0
     ·have hes':entS (init++[last]) op=some (init++[{last with text:=last.text++op.text}]):=by simp[entS,k0,addE_more]
      have htl:op.text.length≤100000:=by simp only[grow,k0,if_true] at hg;omega
      simp[hlt,hg2,hopc,opC,k0]
      intro c hc
      obtain ⟨c1,c2,c3,c4,c5,c6,c7⟩:=hfr c (by simpa[hrN] using hc)
      refine callK.of (add_more q pp cap (byteA aid) (.lit (.bool short)) (.lit (.int .i64 n)) false init last rr op.text (by omega) (by omega) hcl p5' hlb _ p3 (by simp[h3r,c6]) (by simp[c5])) ?_
      rintro v σ' ⟨rfl,rfl⟩
      simp
      refine hfin (p1:=pp) (cap1:=cap) (rr1:=rr) hes' (fun _=>⟨p1,p2,p3,by rw[List.length_append,esO_length,hesl] at p4;rw[esO_length];simp;omega,p5'⟩) ?_
      rw[objS,if_neg (by simp)]
      simp only[rowN,List.length_append,List.length_cons,List.length_nil]
      (intro q;simp only[Store.upd,Store.del];(repeat' split)<;>first|exact Or.inr rfl|exact Or.inl rfl|(exfalso;omega)|(left;subst_vars;assumption)|simp_all)
     ·by_cases k8:op.kind=8
      ·have hes':entS (init++[last]) op=some (init++[{last with text:=last.text++[op.code]}]):=by simp[entS,k8,addE_more]
       simp[hlt,hg2,hopc,opC,k8]
       intro c hc
       obtain ⟨c1,c2,c3,c4,c5,c6,c7⟩:=hfr c (by simpa[hrN] using hc)
       refine callK.of (add_more q pp cap (byteA aid) (.lit (.bool short)) (.lit (.int .i64 n)) true init last rr [op.code] (by simp;omega) (by omega) hcl p5' hlb _ p3 (by simp[h3r,c6]) (by simp[c5])) ?_
       rintro v σ' ⟨rfl,rfl⟩
       simp
       refine hfin (p1:=pp) (cap1:=cap) (rr1:=rr) hes' (fun _=>⟨p1,p2,p3,by rw[List.length_append,esO_length,hesl] at p4;rw[esO_length];simp;omega,p5'⟩) ?_
       rw[objS,if_neg (by simp)]
       simp only[rowN,List.length_append,List.length_cons,List.length_nil]
       (intro q;simp only[Store.upd,Store.del];(repeat' split)<;>first|exact Or.inr rfl|exact Or.inl rfl|(exfalso;omega)|(left;subst_vars;assumption)|simp_all)
      ·by_cases k40:op.kind=40
       ·have hes':entS (init++[last]) op=some (init++[last]):=by simp[entS,k40]
        simp[hlt,hg2,hopc,opC,k40]
        intro c hc
        obtain ⟨c1,c2,c3,c4,c5,c6,c7⟩:=hfr c (by simpa[hrN] using hc)
        refine hfin (p1:=pp) (cap1:=cap) (rr1:=rr) hes' (fun _=>⟨p1,p2,p3,by rw[List.length_append,esO_length,hesl] at p4;rw[esO_length];simp;omega,p5'⟩) ?_
        rw[objS,if_neg (by simp)]
        simp only[rowN,List.length_append,List.length_cons,List.length_nil]
        (intro q;simp only[Store.upd,Store.del];(repeat' split)<;>first|exact Or.inr rfl|exact Or.inl rfl|(exfalso;omega)|(left;subst_vars;assumption)|simp_all)
       ·have k17':¬(op.kind:Int)=17:=by omega
        have k0':¬(op.kind:Int)=0:=by omega
        have k8':¬(op.kind:Int)=8:=by omega
        have k40':¬(op.kind:Int)=40:=by omega
        have hes':entS (init++[last]) op=none:=by simp[entS,k17,k0,k8,k40]
        have hT:TailS aid short n rest ⟨0,false,0,[]⟩ 4:=⟨os,0,hall,hol,by simp[hnone (hnx.trans hes')]⟩
        simp[hlt,hg2,hopc,opC,k0,k17',k8',k40',hrq,h2r]
        intro c hc
        obtain ⟨c1,c2,c3,c4,c5,c6,c7⟩:=hfr c (by simpa[hrN] using hc)
        simp[c7]
        refine ⟨_,AV.le_refl _,σ, ?_, .inl ⟨false,⟨0,false,0,[]⟩,4,rfl,rfl,hT⟩⟩
        (intro q;simp only[Store.upd,Store.del];(repeat' split)<;>first|exact Or.inr rfl|exact Or.inl rfl|(exfalso;omega)|(left;subst_vars;assumption)|simp_all)
  ·obtain rfl:i=os.length:=by omega
   have hT:TailS aid short n rest ⟨aid,short,n,es⟩ 0:=⟨os,0,hall,hol,by simp at hes;simp[hes]⟩
   by_cases hne:es=[]
   ·subst hne
    simp[objS,hrq]
    refine ⟨_,AV.le_refl _,σ, ?_, .inr ⟨0,0,[],[],rfl,hT,fun _=>rfl,fun h=>absurd rfl h⟩⟩
    (intro q;simp only[Store.upd,Store.del];(repeat' split)<;>first|exact Or.inr rfl|exact Or.inl rfl|(exfalso;omega)|(left;subst_vars;assumption)|simp_all)
   ·obtain ⟨p1,p2,p3,p4,p5⟩:=hrow hne
    simp[objS,hne,hrq,Ne.symm p2,Ne.symm p3]
    refine ⟨_,AV.le_refl _,σ.upd pp (esO es++rr), ?_, .inr ⟨pp,cap,es,rr, ?_,hT,fun h=>absurd h hne,fun _=>⟨p1,p4,p5,rfl⟩⟩⟩
    ·(intro q;simp only[Store.upd,Store.del];(repeat' split)<;>first|exact Or.inr rfl|exact Or.inl rfl|(exfalso;omega)|(left;subst_vars;assumption)|simp_all)
    ·simp[rowT,hne,rowN]
 ·have h2':¬(e2:Int)=0:=by omega
  simp[-Bool.exists_bool,hrq,h2]
  refine ⟨_,AV.le_refl _,σ, ?_, .inl ⟨false,⟨0,false,0,[]⟩,e2,rfl,rfl,os,e2,hall,hol,by rw[if_pos h2]⟩⟩
  (intro q;simp only[Store.upd,Store.del];(repeat' split)<;>first|exact Or.inr rfl|exact Or.inl rfl|(exfalso;omega)|(left;subst_vars;assumption)|simp_all)
theorem le1_agg {xs ys:List AV} (h:AllLe1 xs ys):(AV.agg xs).le1 (.agg ys):=fun F v hv=>⟨(AV.le_agg h F v hv).1,fun _ _ _ _=>by cases v<;>simp[Own1]⟩
theorem esO_flat (l:List En):flat (l.map enO)=esO l:=by simp[flat,esO,List.flatMap_map]
theorem esO_le (l:List En):AllLe1 (flat (l.map enO)) (flat (ensA l)):=by
 induction l with
 |nil=>exact trivial
 |cons e l ih=>exact ⟨AV.le1_refl _,AV.le1_list true 1 (bytesA e.text),ih⟩
def ParS (p:List UInt8) (r:Rp) (e:Nat):Prop:=match p with
 |[a]=>r=⟨a,true,0,[]⟩∧e=0
 |a::x::y::rest=>if (decM x y).2≠0 then e=(decM x y).2 else TailS a false (decM x y).1 rest r e
 |_=>e=2
theorem parse_tail2 (o ob:Bool) (p:List UInt8) (aid:UInt8) (short:Bool) (n:Nat) (rest:List UInt8) (hl:rest.length≤100000) (σ:Store)
  (hb:∀σ,ACalls Tryz.prog 30 [.list false 1 (bytesA p)] σ fun v σ'=>v= .tuple [hdA aid short n, .list ob 1 (bytesA rest), .lit (.int .i64 0)]∧σ'=σ):
  ACalls Tryz.prog 17 [.list o 1 (bytesA p)] σ (PaR (TailS aid short n rest) σ):=by
 refine (parse_tail o ob p aid short n rest hl σ hb).shiftAgg fun v σ' h=> ?_
 rcases h with h|⟨p,cap,es,rest',rfl,hT,h0,h1⟩
 ·exact .inl ⟨v,σ',AV.le_refl _,Store.sub_refl _,h⟩
 ·by_cases hne:es=[]
  ·subst hne
   obtain rfl:=h0 rfl
   refine .inl ⟨_,σ', ?_,Store.sub_refl _,false,⟨aid,short,n,[]⟩,0,rfl,rfl,hT⟩
   exact AV.le_tuple ⟨le1_agg ⟨AV.le1_refl _,AV.le1_refl _,AV.le1_refl _,AV.le1_nil false 2,trivial⟩,AV.le1_refl _,trivial⟩
  ·obtain ⟨h2,h3,h4,rfl⟩:=h1 hne
   have hfl:=esO_flat es
   have hlen:(es.map enO).length=es.length:=by simp
   have hd:(σ.upd p (esO es++rest')).del p=σ:=by
    funext k;simp only[Store.del,Store.upd];split
    ·rename_i h;subst h;exact h2.symm
    ·rfl
   refine .inr ⟨p,cap,2,es.map enO,rest',[byteA aid, .lit (.bool short), .lit (.int .i64 n)],[],[.lit (.int .i64 0)], ?_,rfl, ?_, ?_,h4, ?_, ?_,ensA es, ?_, ?_⟩
   ·simp[rowT,hne,rowN]
   ·rw[hfl];simp[Store.upd]
   ·rw[hfl];exact h3
   ·rw[hlen];rw[List.length_append,esO_length] at h3;omega
   ·intro v hv
    obtain ⟨e,_,rfl⟩:=List.mem_map.1 hv;rfl
   ·refine AV.le_els (by simp) (fun v hv=> ?_) (esO_le es)
    obtain ⟨e,_,rfl⟩:=List.mem_map.1 hv;rfl
   ·rw[hd]
    exact ⟨false,⟨aid,short,n,es⟩,0,rfl,rfl,hT⟩
theorem parse_err (o:Bool) (p:List UInt8) (e:Nat) (he:e≠0) (σ:Store)
  (hb:∀σ,ACalls Tryz.prog 30 [.list false 1 (bytesA p)] σ fun v σ'=>v= .tuple [hdA 0 false 0, .list true 1 [], .lit (.int .i64 e)]∧σ'=σ):
  ACalls Tryz.prog 17 [.list o 1 (bytesA p)] σ fun v σ'=>v= .tuple [rpO false ⟨0,false,0,[]⟩, .lit (.int .i64 e)]∧σ'=σ:=by
 have hh:hdA 0 false 0= .agg [byteA 0, .lit (.bool false), .lit (.int .i64 0), .lit (.slice none 0 0)]:=rfl
 have he':¬(e:Int)=0:=by omega
 refine aw st17 pl17 65 Tryz.func17 rfl ?_
 simp
 intro r0 hr0
 refine callK.of (hb _) ?_
 rintro v σ' ⟨rfl,rfl⟩
 simp[-Bool.exists_bool,hh]
 intro q hq
 simp only[ite_none] at hq
 obtain ⟨hqr,hq⟩:=hq
 have hrq:=Ne.symm hqr
 simp[-Bool.exists_bool,hrq,he]
 exact ⟨AV.le_refl _,by (intro q;simp only[Store.upd,Store.del];(repeat' split)<;>first|exact Or.inr rfl|exact Or.inl rfl|(exfalso;omega)|(left;subst_vars;assumption)|simp_all)⟩
theorem parse_calls (o:Bool) (p:List UInt8) (hl:p.length≤100000) (σ:Store):ACalls Tryz.prog 17 [.list o 1 (bytesA p)] σ (PaR (ParS p) σ):=by
 have err:∀e:Nat,e≠0→ParS p ⟨0,false,0,[]⟩ e→(∀σ,ACalls Tryz.prog 30 [.list false 1 (bytesA p)] σ fun v σ'=>v= .tuple [hdA 0 false 0, .list true 1 [], .lit (.int .i64 e)]∧σ'=σ)→
   ACalls Tryz.prog 17 [.list o 1 (bytesA p)] σ (PaR (ParS p) σ):=fun e he hs hb=>
  (parse_err o p e he σ hb).mono fun v σ' ⟨h1,h2⟩=>⟨false,⟨0,false,0,[]⟩,e,h1,h2,hs⟩
 have hb:=fun σ=>begin_calls false p (by omega) σ
 rcases p with _|⟨a,_|⟨x,_|⟨y,rest⟩⟩⟩
 ·exact err 2 (by simp) rfl hb
 ·refine (parse_tail2 o true [a] a true 0 [] (by simp) σ hb).mono fun v σ' ⟨ow,r,e,h1,h2,os,e2,h3,h4,h5⟩=>⟨ow,r,e,h1,h2, ?_⟩
  have hos:os=[]:=List.eq_nil_of_length_eq_zero (by simpa using h4)
  subst hos
  have he2:e2=0:=by
   cases h3 with
   |nil=>rfl
   |bad h=>have:=h.len;simp at this
  subst he2
  show r=_∧e=0
  simpa[entsS] using h5
 ·exact err 2 (by simp) rfl hb
 ·have h:∀σ,ACalls Tryz.prog 30 [.list false 1 (bytesA (a::x::y::rest))] σ fun v σ'=>v=(if (decM x y).2≠0 then .tuple [hdA 0 false 0, .list true 1 [], .lit (.int .i64 (decM x y).2)] else .tuple [hdA a false (decM x y).1, .list false 1 (bytesA rest), .lit (.int .i64 0)])∧σ'=σ:=hb
  by_cases he:(decM x y).2≠0
  ·rw[if_pos he] at h
   exact err _ he (by show if _ then _ else _;rw[if_pos he]) h
  ·rw[if_neg he] at h
   refine (parse_tail2 o false _ a false _ rest (by simp at hl;omega) σ h).mono fun v σ' ⟨ow,r,e,h1,h2,h3⟩=>⟨ow,r,e,h1,h2, ?_⟩
   show if _ then _ else _
   rw[if_neg he];exact h3
theorem AllS.sba {x y:UInt8} {tl:List UInt8} {os:List Op} {e:Nat} (h:AllS (17::x::y::tl) os e) (hd:(decM x y).2=0):∃os',os=sbaOp (decM x y).1::os'∧AllS tl os' e:=by
 cases h with
 |ok h1 h2=>obtain ⟨rfl,rfl,_⟩:=h1.sba _ _ _ rfl;exact ⟨_,rfl,h2⟩
 |bad h1 h2=>obtain ⟨_,_,h3⟩:=h1.sba _ _ _ rfl;exact absurd (h3.trans hd) h2
theorem until_all {t tl:List UInt8} (ht:hasOrd t=false) (htl:tl=[]∨∃c tl',tl=c::tl'∧isOrd c=true):untilO (t++tl)=t∧fromO (t++tl)=tl:=by
 have h:∀c∈t,(!isOrd c)=true:=fun c hc=>by
  rw[hasOrd,List.any_eq_false] at ht
  simpa using ht c hc
 have h2:tl.takeWhile (fun c=> !isOrd c)=[]∧tl.dropWhile (fun c=> !isOrd c)=tl:=by
  rcases htl with rfl|⟨c,tl',rfl,hc⟩
  ·exact ⟨rfl,rfl⟩
  ·simp[hc]
 simp only[untilO,fromO]
 rw[List.takeWhile_append_of_pos h,List.dropWhile_append_of_pos h,h2.1,h2.2]
 simp
theorem AllS.text {t tl:List UInt8} {os:List Op} {e:Nat} (h:AllS (t++tl) os e) (ht:hasOrd t=false) (hne:t≠[]) (htl:tl=[]∨∃c tl',tl=c::tl'∧isOrd c=true):∃os',os=txtOp t::os'∧AllS tl os' e:=by
 obtain ⟨u1,u2⟩:=until_all ht htl
 obtain ⟨c,t',rfl⟩:=List.exists_cons_of_ne_nil hne
 have hc:isOrd c=false:=by
  rw[hasOrd,List.any_eq_false] at ht
  simpa using ht c (by simp)
 generalize hl:(c::t')++tl=l at*
 cases h with
 |nil=>cases hl
 |ok h1 h2=>
  obtain ⟨rfl,rfl,_⟩:=h1.text c (t'++tl) hl.symm hc
  rw[u1];rw[u2] at h2;exact ⟨_,rfl,h2⟩
 |bad h1 h2=>obtain ⟨_,_,h3⟩:=h1.text c (t'++tl) hl.symm hc;exact absurd h3 h2
def encE (e:En):List UInt8:=17::encM e.addr.toNat++e.text
def fine (e:En):Prop:=okAddr e.addr∧hasOrd e.text=false
theorem dec_addr {n:Int} (h:okAddr n):∃x y,encM n.toNat=[x,y]∧decM x y=(n.toNat,0)∧((n.toNat:Nat):Int)=n:=
 ⟨_,_,rfl,dec_enc (by have:=h.1;have:=h.2;omega),by have:=h.1;omega⟩
theorem enc_all:∀ {es:List En} {os:List Op} {e:Nat},(∀x∈es,fine x)→AllS (es.flatMap encE) os e→e=0∧os=es.flatMap (opsE false)
 |[],os,e,_,h=>by
  cases h with
  |nil=>exact ⟨rfl,rfl⟩
  |ok h1 h2=>have:=h1.len;simp at this
  |bad h1 h2=>have:=h1.len;simp at this
 |x::es,os,e,hf,h=>by
  obtain ⟨f1,f2⟩:=hf x (by simp)
  obtain ⟨a,b,h1,h2,h3⟩:=dec_addr f1
  have hl:(x::es).flatMap encE=17::a::b::(x.text++es.flatMap encE):=by simp[encE,h1]
  rw[hl] at h
  obtain ⟨os1,rfl,k⟩:=h.sba (by rw[h2])
  have hd:(((decM a b).1:Nat):Int)=x.addr:=by rw[h2];exact h3
  have htl:es.flatMap encE=[]∨∃c tl',es.flatMap encE=c::tl'∧isOrd c=true:=by
   cases es with
   |nil=>exact .inl rfl
   |cons z es=>exact .inr ⟨17,encM z.addr.toNat++z.text++es.flatMap encE,by simp[encE],by decide⟩
  by_cases ht:x.text=[]
  ·rw[ht,List.nil_append] at k
   obtain ⟨r1,r2⟩:=enc_all (fun z hz=>hf z (by simp[hz])) k
   exact ⟨r1,by simp[opsE,ht,hd,r2]⟩
  ·obtain ⟨os2,rfl,k2⟩:=k.text f2 ht htl
   obtain ⟨r1,r2⟩:=enc_all (fun z hz=>hf z (by simp[hz])) k2
   exact ⟨r1,by simp[opsE,ht,hd,r2]⟩
theorem entS_sba (es:List En) (n:Int):entS es (sbaOp n)=some (es++[⟨n,[]⟩]):=rfl
theorem entS_txt (es:List En) (t:List UInt8):entS es (txtOp t)=some (addE es t):=rfl
theorem ents_enc (es:List En):∀acc:List En,(es.flatMap (opsE false)).foldlM entS acc=some (acc++es):=by
 induction es with
 |nil=>simp
 |cons e es ih=>
  intro acc
  obtain ⟨a,t⟩:=e
  by_cases ht:t=[]
  ·subst ht
   simp[opsE,entS_sba,ih]
  ·simp[opsE,ht,entS_sba,entS_txt,addE_more,ih]
theorem seqB_zero {α:Type} {f:α→List UInt8×Nat} :∀ {l:List α},(seqB f l).2=0→(∀o∈l,(f o).2=0)∧(seqB f l).1=l.flatMap fun o=>(f o).1
 |[],_=>⟨by simp,rfl⟩
 |o::l,h=>by
  by_cases h1:(f o).2=0
  ·by_cases h2:(seqB f l).2=0
   ·obtain ⟨k1,k2⟩:=seqB_zero h2
    refine ⟨fun x hx=> ?_, ?_⟩
    ·rcases List.mem_cons.1 hx with rfl|hx
     ·exact h1
     ·exact k1 x hx
    ·simp[seqB,h1,h2,k2]
   ·simp[seqB,h1,h2] at h
  ·simp[seqB,h1] at h
theorem entB_fine {e:En} (h:(entB false e).2=0):fine e∧(entB false e).1=encE e:=by
 rw[entB_false] at h⊢
 by_cases h1:okAddr e.addr
 ·by_cases h2:hasOrd e.text=true
  ·simp[h1,h2] at h
  ·exact ⟨⟨h1,by simpa using h2⟩,by simp[h1,h2,encE]⟩
 ·simp[h1] at h
theorem par_rep {r r':Rp} {e:Nat} (hz:(repB r).2=0) (h:ParS (repB r).1 r' e):e=0∧r'=if r.short=true then ⟨r.aid,true,0,[]⟩ else r:=by
 obtain ⟨aid,short,cursor,es⟩:=r
 by_cases hs:short=true
 ·subst hs
  simp only[repB,if_true] at h
  exact ⟨h.2,by rw[h.1];rfl⟩
 ·have hs':short=false:=by simpa using hs
  subst hs'
  by_cases hc:okAddr cursor
  ·by_cases hq:(seqB (entB (aloneL es)) es).2=0
   ·obtain ⟨k1,k2⟩:=seqB_zero hq
    obtain ⟨x,y,h1,h2,h3⟩:=dec_addr hc
    have hr:(repB ⟨aid,false,cursor,es⟩).1=aid::x::y::es.flatMap fun o=>(entB (aloneL es) o).1:=by
     simp[repB,hc,hq,k2,h1]
    rw[hr] at h
    have h':if (decM x y).2≠0 then e=(decM x y).2 else TailS aid false (decM x y).1 (es.flatMap fun o=>(entB (aloneL es) o).1) r' e:=h
    rw[h2,if_neg (by simp)] at h'
    obtain ⟨os,e2,g1,_,g2⟩:=h'
    have fin:e2=0→entsS os=some es→e=0∧r'=⟨aid,false,cursor,es⟩:=fun q1 q2=>by
     subst q1
     rw[if_neg (by simp),q2] at g2
     obtain ⟨q3,q4⟩:=g2
     exact ⟨q4,by rw[q3];simp[h3]⟩
    simp only[Bool.false_eq_true,if_false]
    by_cases ha:aloneL es=true
    ·rcases aloneL_cases es with ⟨_,h⟩|⟨x,rfl,⟨_,h⟩|⟨_,_,h⟩|⟨a1,a2,_⟩⟩
     ·rw[h] at ha;cases ha
     ·rw[h] at ha;cases ha
     ·rw[h] at ha;cases ha
     ·rw[ha] at g1 k1
      have hx:=k1 x (by simp)
      rw[entB_true x a2] at hx
      have ho:hasOrd x.text=false:=by
       by_cases h:hasOrd x.text=true
       ·simp[h] at hx
       ·simpa using h
      have hb:(entB true x).1=x.text:=by rw[entB_true x a2];simp[ho]
      simp only[List.flatMap_cons,List.flatMap_nil,hb] at g1
      obtain ⟨os',rfl,k⟩:=g1.text ho (List.length_pos_iff.1 a2) (.inl rfl)
      obtain ⟨rfl,rfl⟩:=enc_all (es:=[]) (by simp) k
      refine fin rfl ?_
      obtain ⟨xa,xt⟩:=x
      simp only at a1;subst a1
      simp[entsS,entS_txt,addE]
    ·have ha':aloneL es=false:=by simpa using ha
     rw[ha'] at g1 k1
     have hfl:(es.flatMap fun o=>(entB false o).1)=es.flatMap encE:=by
      have:∀l:List En,(∀o∈l,(entB false o).2=0)→(l.flatMap fun o=>(entB false o).1)=l.flatMap encE:=fun l=>by
       induction l with
       |nil=>intro _;rfl
       |cons o l ih=>intro hl;simp only[List.flatMap_cons];rw[ih fun x hx=>hl x (by simp[hx]),(entB_fine (hl o (by simp))).2]
      exact this es k1
     rw[hfl] at g1
     obtain ⟨rfl,rfl⟩:=enc_all (fun x hx=>(entB_fine (k1 x hx)).1) g1
     exact fin rfl (ents_enc es [])
   ·simp[repB,hc,hq] at hz
  ·simp[repB,hc] at hz
def clean (es:List En):Prop:=∀e∈es,hasOrd e.text=false
theorem hasOrd_append (l k:List UInt8):hasOrd (l++k)=(hasOrd l||hasOrd k):=by simp[hasOrd]
theorem entS_clean {l l':List UInt8} {es es':List En} {o:Op} (h:Step l o l' 0) (hc:clean es) (he:entS es o=some es'):clean es':=by
 obtain ⟨w1,w2,_⟩:=h.wf rfl
 have hadd:∀t,hasOrd t=false→clean (addE es t):=fun t ht=>by
  rcases List.eq_nil_or_concat es with rfl|⟨init,last,rfl⟩
  ·intro e he;simp[addE] at he;subst he;exact ht
  ·rw[List.concat_eq_append] at hc⊢
   rw[addE_more]
   intro e he
   rcases List.mem_append.1 he with he|he
   ·exact hc e (by simp[he])
   ·simp at he;subst he
    simp only;rw[hasOrd_append,hc last (by simp),ht];rfl
 unfold entS at he
 split at he
 ·simp at he;subst he
  intro e he
  rcases List.mem_append.1 he with he|he
  ·exact hc e he
  ·simp at he;subst he;rfl
 ·split at he
  ·rename_i hk;simp at he;subst he;exact hadd _ (w1 hk).2
  ·split at he
   ·rename_i hk;simp at he;subst he;exact hadd _ (by simp[hasOrd,w2 hk])
   ·split at he
    ·simp at he;subst he;exact hc
    ·cases he
theorem AllS.clean {l:List UInt8} {os:List Op} (h:AllS l os 0):∀ {es es':List En},clean es→os.foldlM entS es=some es'→clean es':=by
 generalize hz:0=e at h
 induction h with
 |nil=>intro es es' hc he;simp at he;subst he;exact hc
 |ok h1 h2 ih=>
  intro es es' hc he
  rw[List.foldlM_cons] at he
  rename_i o os e
  cases ho:entS es o with
  |none=>simp[ho] at he
  |some es1=>
   simp[ho] at he
   exact ih hz (entS_clean h1 hc ho) he
 |bad h1 h2=>exact absurd hz.symm h2
def exRp:Rp:=⟨0x7d,false,2,[⟨1,[0xc1,0xc2]⟩]⟩
theorem exBp:repB exRp=([0x7d,0x40,0xc2,0x11,0x40,0xc1,0xc1,0xc2],0):=by decide+kernel
def sameE (x y:En):Bool:=decide (x.addr=y.addr)&&(x.text==y.text)
theorem awake_calls (σ:Store):ACalls Tryz.prog 4 [] σ fun v σ'=>v= .lit (.bool true)∧σ'=σ:=by
 have hp:∀σ,ACalls Tryz.prog 17 [.list true 1 (bytesA (repB exRp).1)] σ fun v σ'=>(∃ow,v= .tuple [rpO ow exRp, .lit (.int .i64 0)])∧σ'=σ:=fun σ=>
  (parse_calls true (repB exRp).1 (by rw[exBp];simp) σ).mono fun v σ' ⟨ow,r,e,h1,h2,h3⟩=>by
   obtain ⟨rfl,rfl⟩:=par_rep (by rw[exBp]) h3
   exact ⟨⟨ow,h1⟩,h2⟩
 rw[exBp] at hp
 simp only[bytesA,byteA,List.map_cons,List.map_nil] at hp
 have hc:∀ow,rpO ow exRp= .agg [.lit (.int .u8 125), .lit (.bool false), .lit (.int .i64 2), .list ow 2 [.agg [.lit (.int .i64 1), .list false 1 (bytesA [0xc1,0xc2])]]]:=fun _=>rfl
 refine aw st4 pl4 43 Tryz.func4 rfl ?_
 simp
 refine callK.of (hp _) ?_
 rintro v σ' ⟨⟨ow,rfl⟩,rfl⟩
 simp+contextual [hc,bytesOf_bytesA]
end Go.Proofs.YtjnopnpkfhopbaaGreatDoor
