/-
 The scanner of orders: an address, a character, attributes, a text.
-/
import Derived.Test.YtjnopnpkfhopbaaGreatDoorPart11
set_option linter.unusedSimpArgs false
set_option linter.unusedVariables false
set_option maxRecDepth 8000
set_option maxHeartbeats 8000000
namespace Go.Proofs.YtjnopnpkfhopbaaGreatDoor
open Go Go.AL
theorem addr_short (b:Nat) (o:Bool) (l:List UInt8) (σ:Store) (hb:σ b=some (scA o l 0)) (hl:l.length<2):
  ACalls Tryz.prog 88 [ptrA b] σ fun v σ'=>v= .lit (.int .i64 0)∧σ'=σ.upd b (scA true [] 2):=by
 have ht:=take_short2 b o l 0 σ hb hl
 have e1:scA true [] (failE 0 2)=[.list true 1 [], .lit (.int .i64 2)]:=rfl
 have e2:scA true [] 2=[.list true 1 [], .lit (.int .i64 2)]:=rfl
 rw[e1] at ht
 rw[e2]
 refine aw st88 pl88 24 Tryz.func88 rfl ?_
 simp
 refine callK.of ht ?_
 rintro v σ' ⟨rfl,rfl⟩
 simp
theorem addr_two (b:Nat) (o:Bool) (x y:UInt8) (tl:List UInt8) (σ:Store) (hb:σ b=some (scA o (x::y::tl) 0)) (hl:tl.length≤1000000000):
  ACalls Tryz.prog 88 [ptrA b] σ fun v σ'=>v= .lit (.int .i64 (decM x y).1)∧σ'=σ.upd b (scA false tl (decM x y).2):=by
 have ht:=take_ok b o (x::y::tl) 0 2 σ hb (by simp) (by simp;omega)
 have hd:=dec_calls_two false x y []
 have hf:=fail_calls b false tl 0 (decM x y).2
 have e1:scA false ((x::y::tl).drop 2) 0=[.list false 1 (bytesA tl), .lit (.int .i64 0)]:=rfl
 have e2:∀e,scA false tl e=[.list false 1 (bytesA tl), .lit (.int .i64 e)]:=fun _=>rfl
 rw[e1] at ht
 rw[e2] at hf⊢
 obtain ⟨N,hN⟩:∃N,(decM x y).1=N:=⟨_,rfl⟩
 obtain ⟨E,hE⟩:∃E,(decM x y).2=E:=⟨_,rfl⟩
 rw[hN,hE] at hd
 rw[hE] at hf
 rw[hN,hE]
 clear hN hE
 have hfE:failE 0 E=E:=by simp[failE]
 rw[hfE,e2] at hf
 refine aw st88 pl88 24 Tryz.func88 rfl ?_
 simp
 refine callK.of ht ?_
 rintro v σ' ⟨rfl,rfl⟩
 simp
 refine callK.of (hd _) ?_
 rintro v σ' ⟨rfl,rfl⟩
 by_cases h0:E=0
 ·subst h0
  simp
 ·have h0':¬(E:Int)=0:=by omega
  simp[h0]
  refine callK.of (hf _ (by simp)) ?_
  rintro v σ' ⟨rfl,rfl⟩
  simp
def chE (l:List UInt8) (e:Nat):Nat:=match l with
 |[]=>failE e 2
 |c::_=>if isOrd c=true then failE e 10 else e
def prP:List UInt8→List (UInt8×UInt8)
 |x::y::_=>[(x,y)]
 |_=>[(0,0)]
def prL:List UInt8→List UInt8
 |_::_::tl=>tl
 |_=>[]
def prE (l:List UInt8) (e:Nat):Nat:=match l with
 |x::y::_=>if chkE x y=0 then e else failE e (chkE x y)
 |_=>failE e 2
def prsN (l:List UInt8) (n:Nat):List (UInt8×UInt8):=(List.range n).map fun i=>(l[1+2*i]?.getD 0,l[1+2*i+1]?.getD 0)
theorem prsN_succ (l:List UInt8) (n:Nat):prsN l (n+1)=prsN l n++[(l[1+2*n]?.getD 0,l[1+2*n+1]?.getD 0)]:=by
 simp[prsN,List.range_succ]
def allP (l:List (UInt8×UInt8)):Prop:=∀x∈l,chkE x.1 x.2=0
instance (l:List (UInt8×UInt8)):Decidable (allP l):=by unfold allP;infer_instance
theorem chkE_01 (x y:UInt8):chkE x y=0∨chkE x y=10:=by unfold chkE;split<;>simp
def attrF (l:List UInt8):Nat×List (UInt8×UInt8):=match l with
 |[]=>(2,[])
 |c::tl=>if (c::tl).length<1+2*c.toNat then (2,[]) else if allP (prsN (c::tl) c.toNat) then (0,prsN (c::tl) c.toNat) else (10,[])
def attrN (l:List UInt8):Nat:=if (attrF l).1=0 then 1+2*(l.headD 0).toNat else 0
def CharR (b:Nat) (l:List UInt8) (e:Nat) (σ:Store) (v:AV) (σ':Store):Prop:=
 ∃o',v=byteA (l.headD 0)∧σ'=σ.upd b (scA o' l.tail (chE l e))
def PairQ (b:Nat) (ps:List (UInt8×UInt8)) (l':List UInt8) (e':Nat) (σ:Store) (v:AV) (σ':Store):Prop:=
 ∃ow o',v= .list ow 2 (pairsA ps)∧σ'=σ.upd b (scA o' l' e')
abbrev PairsR (b:Nat) (l:List UInt8) (e:Nat) (σ:Store):AV→Store→Prop:=PairQ b (attrF l).2 (l.drop (attrN l)) (if (attrF l).1=0 then e else failE e (attrF l).1) σ
abbrev PairR (b:Nat) (l:List UInt8) (e:Nat) (σ:Store):AV→Store→Prop:=PairQ b (prP l) (prL l) (prE l e) σ
theorem char_calls (b:Nat) (o:Bool) (l:List UInt8) (e:Nat) (σ:Store) (hb:σ b=some (scA o l e)) (hl:l.length≤1000000000):
  ACalls Tryz.prog 89 [ptrA b] σ (CharR b l e σ):=by
 rcases l with _|⟨c,tl⟩
 ·have ht:=take_short1 b o e σ hb
  have hi:=is_calls 0
  have h0:isOrd 0=false:=by decide
  rw[h0] at hi
  have e1:bytesA [0]=[byteA 0]:=rfl
  rw[e1] at ht
  refine aw st89 pl89 13 Tryz.func89 rfl ?_
  simp
  refine callK.of ht ?_
  rintro v σ' ⟨rfl,rfl⟩
  simp
  refine callK.of (hi _) ?_
  rintro v σ' ⟨rfl,rfl⟩
  simp
  exact ⟨_,AV.le_refl _,_,Store.sub_refl _,true,rfl,rfl⟩
 ·have ht:=take_ok b o (c::tl) e 1 σ hb (by simp) (by simp at hl⊢;omega)
  have hi:=is_calls c
  have e1:bytesA ((c::tl).take 1)=[byteA c]:=rfl
  have e2:(c::tl).drop 1=tl:=rfl
  rw[e1,e2] at ht
  have hf:=fail_calls b false tl e 10
  refine aw st89 pl89 13 Tryz.func89 rfl ?_
  simp
  refine callK.of ht ?_
  rintro v σ' ⟨rfl,rfl⟩
  simp
  refine callK.of (hi _) ?_
  rintro v σ' ⟨rfl,rfl⟩
  by_cases ho:isOrd c=true
  ·simp[ho]
   refine callK.of (hf _ (by simp)) ?_
   rintro v σ' ⟨rfl,rfl⟩
   simp
   exact ⟨_,AV.le_refl _,_,Store.sub_refl _,false,rfl,by simp[chE,ho]⟩
  ·have ho':isOrd c=false:=by simpa using ho
   simp[ho']
   exact ⟨_,AV.le_refl _,_,Store.sub_refl _,false,rfl,by simp[chE,ho']⟩
theorem pair_calls (b:Nat) (o:Bool) (l:List UInt8) (e:Nat) (σ:Store) (hb:σ b=some (scA o l e)) (hl:l.length≤1000000000):
  ACalls Tryz.prog 90 [ptrA b] σ (PairR b l e σ):=by
 have main:∀(x y:UInt8) (o':Bool) (l':List UInt8) (e1:Nat),ACalls Tryz.prog 87 [ptrA b, .lit (.int .i64 2)] σ (fun v σ'=>v= .list false 1 [byteA x,byteA y]∧σ'=σ.upd b (scA o' l' e1))→
   ACalls Tryz.prog 90 [ptrA b] σ (PairQ b [(x,y)] l' (if chkE x y=0 then e1 else failE e1 (chkE x y)) σ):=by
  intro x y o' l' e1 ht
  have hch:=check_calls x y
  have hf:=fail_calls b o' l' e1
  generalize chkE x y=er at*
  refine aw st90 pl90 24 Tryz.func90 rfl ?_
  simp
  refine callK.of ht ?_
  rintro v σ' ⟨rfl,rfl⟩
  simp
  intro q hq
  simp only[ite_none] at hq
  obtain ⟨hqb,hq0⟩:=hq
  refine callK.of (hch _) ?_
  rintro v σ' ⟨rfl,rfl⟩
  have hbq:=Ne.symm hqb
  by_cases h0:er=0
  ·subst h0
   simp
   refine ⟨_,AV.le_refl _,_, ?_,true,o',rfl,rfl⟩
   exact Store.sub_upd (by simp[hqb,hq0]) (Store.sub_refl _)
  ·have h0':¬(er:Int)=0:=by omega
   simp[h0]
   refine callK.of (hf er _ (by simp[hbq])) ?_
   rintro v σ' ⟨rfl,rfl⟩
   simp[hqb]
   refine ⟨_,AV.le_refl _,_, ?_,true,o',rfl,rfl⟩
   rw[supd_swap _ hqb]
   simp
   exact Store.sub_upd (by simp[hqb,hq0]) (Store.sub_refl _)
 by_cases hl2:l.length<2
 ·have hc:chkE 0 0=0:=by decide
  have e1:prP l=[(0,0)]∧prL l=[]∧prE l e=failE e 2:=by
   rcases l with _|⟨x,_|⟨y,tl⟩⟩
   ·exact ⟨rfl,rfl,rfl⟩
   ·exact ⟨rfl,rfl,rfl⟩
   ·simp at hl2;omega
  have:=main 0 0 true [] (failE e 2) (take_short2 b o l e σ hb hl2)
  rw[if_pos hc] at this
  rw[PairR,e1.1,e1.2.1,e1.2.2]
  exact this
 ·obtain ⟨x,y,tl,rfl⟩:∃x y tl,l=x::y::tl:=by
   rcases l with _|⟨x,_|⟨y,tl⟩⟩
   ·simp at hl2
   ·simp at hl2
   ·exact ⟨x,y,tl,rfl⟩
  exact main x y false tl e (take_ok b o (x::y::tl) e 2 σ hb (by simp) (by simp at hl⊢;omega))
def AttrR (l:List UInt8) (σ:Store) (v:AV) (σ':Store):Prop:=
 ∃ow,v= .tuple [.list ow 2 (pairsA (attrF l).2), .lit (.int .i64 (attrN l:Nat)), .lit (.int .i64 ((attrF l).1:Nat))]∧σ'=σ
theorem attr_empty (o:Bool) (σ:Store):ACalls Tryz.prog 108 [.list o 1 (bytesA [])] σ (AttrR [] σ):=by
 refine aw st108 pl108 56 Tryz.func108 rfl ?_
 simp[bytesA_nil]
 exact ⟨_,AV.le_refl _,_,Store.sub_refl _,true,rfl,rfl⟩
theorem attr_short (o:Bool) (c:UInt8) (tl:List UInt8) (σ:Store) (hs:((c::tl).length:Int)<1+2*(c.toNat:Int)):ACalls Tryz.prog 108 [.list o 1 (bytesA (c::tl))] σ (AttrR (c::tl) σ):=by
 have hc:=c.toNat_lt
 have w1:IntKind.i64.wrap (2*(c.toNat:Int))=2*(c.toNat:Int):=wrap_i64 (by omega) (by omega)
 have w2:IntKind.i64.wrap (1+2*(c.toNat:Int))=1+2*(c.toNat:Int):=wrap_i64 (by omega) (by omega)
 have g0:(bytesA (c::tl))[0]?=some (byteA c):=rfl
 have gl:(bytesA (c::tl)).length=(c::tl).length:=by simp
 have gl1:¬(((c::tl).length:Int)<1):=by simp;omega
 have gl0:0<(bytesA (c::tl)).length:=by simp
 have e0:=(List.getElem_eq_iff gl0).2 g0
 have hF:attrF (c::tl)=(2,[]):=by unfold attrF;exact if_pos (by omega)
 have hN:attrN (c::tl)=0:=by rw[attrN,hF];rfl
 generalize (c::tl)=l at*
 rw[←gl] at hs gl1
 generalize bytesA l=L at*
 refine aw st108 pl108 56 Tryz.func108 rfl ?_
 simp[hs,gl1,gl0,e0,byteA,w1,w2,wrapB]
 exact ⟨_,AV.le_refl _,_,Store.sub_refl _,true,by rw[hF,hN];rfl,rfl⟩
theorem attr_ok (o:Bool) (c:UInt8) (tl:List UInt8) (σ:Store) (hs:¬((c::tl).length:Int)<1+2*(c.toNat:Int)):ACalls Tryz.prog 108 [.list o 1 (bytesA (c::tl))] σ (AttrR (c::tl) σ):=by
 have hc:=c.toNat_lt
 have w1:IntKind.i64.wrap (2*(c.toNat:Int))=2*(c.toNat:Int):=wrap_i64 (by omega) (by omega)
 have w2:IntKind.i64.wrap (1+2*(c.toNat:Int))=1+2*(c.toNat:Int):=wrap_i64 (by omega) (by omega)
 have g0:(bytesA (c::tl))[0]?=some (byteA c):=rfl
 have gl1:¬(((c::tl).length:Int)<1):=by simp;omega
 have gl0:0<(bytesA (c::tl)).length:=by simp
 have e0:=(List.getElem_eq_iff gl0).2 g0
 have hF:attrF (c::tl)=if allP (prsN (c::tl) c.toNat) then (0,prsN (c::tl) c.toNat) else (10,[]):=by unfold attrF;exact if_neg (by omega)
 have hN:attrN (c::tl)=if (attrF (c::tl)).1=0 then 1+2*c.toNat else 0:=rfl
 generalize (c::tl)=l at*
 have gl:(bytesA l).length=l.length:=by simp
 have gt:=bytesA_at l
 rw[←gl] at gl1
 have hs':=hs
 rw[←gl] at hs
 refine aw st108 pl108 56 Tryz.func108 rfl ?_
 simp only[bytesA_length] at gl1 hs gl0
 simp[hs,gl1,gl0,e0,byteA,w1,w2,wrapB]
 refine codeK.loop follows (st:=st108) (plans:=pl108) (X:=Nat) (fun j=>j≤c.toNat∧allP (prsN l j))
  (fun j=>[(0, .list false 1 (bytesA l)),(5, .list true 2 (pairsA (prsN l j))),(6, .lit (.int .i64 (1+2*(c.toNat:Int)))),(7, .lit (.int .i64 (1+2*j:Nat)))]) (fun _=>σ) (fun j=>c.toNat-j) 0 (by kernel_rfl) (by simp[allP,prsN]) (by simp[pairsA,prsN]) (Store.sub_refl _) fun j hx=> ?_
 obtain ⟨hj,hps⟩:=hx
 by_cases hlt:j<c.toNat
 ·have hi1:1+2*j<l.length:=by omega
  have hi2:1+2*j+1<l.length:=by omega
  have t1:=gt (1+2*j) hi1
  have t2:=gt (1+2*j+1) hi2
  have hwj:IntKind.i64.wrap (((1+2*j:Nat):Int)+1)=((1+2*j+1:Nat):Int):=wrap_i64 (by omega) (by omega)
  have hwj2:IntKind.i64.wrap (((1+2*j:Nat):Int)+2)=((1+2*(j+1):Nat):Int):=by rw[wrap_i64 (by omega) (by omega)];omega
  have hlt':((1+2*j:Nat):Int)<1+2*(c.toNat:Int):=by omega
  have hs2:(1+2*j)+1<600:=by omega
  obtain ⟨x,hx⟩:∃x,l[1+2*j]=x:=⟨_,rfl⟩
  obtain ⟨y,hy⟩:∃y,l[1+2*j+1]=y:=⟨_,rfl⟩
  rw[hx] at t1
  rw[hy] at t2
  have hnext:1+2*(j+1)=(1+2*j)+2:=by omega
  obtain ⟨k,hk⟩:∃k,1+2*j=k:=⟨_,rfl⟩
  obtain ⟨k1,hk1⟩:∃k1,k+1=k1:=⟨_,rfl⟩
  rw[hk] at hwj hwj2 hlt'
  rw[hk1] at hwj
  have t1':(bytesA l)[k]?=some (byteA x):=by rw[←t1,←List.getElem?_eq_getElem];congr 1;exact hk.symm
  have t2':(bytesA l)[k1]?=some (byteA y):=by rw[←t2,←List.getElem?_eq_getElem];congr 1;omega
  have b1:k<(bytesA l).length:=by rw[gl];omega
  have b2:k1<(bytesA l).length:=by rw[gl];omega
  have t3:=(List.getElem_eq_iff b1).2 t1'
  have t4:=(List.getElem_eq_iff b2).2 t2'
  rw[gl] at b1 b2
  have hch:=check_calls x y
  have hsucc:prsN l (j+1)=prsN l j++[(x,y)]:=by
   rw[prsN_succ,List.getElem?_eq_getElem hi1,List.getElem?_eq_getElem hi2,hx,hy];rfl
  have hgood:chkE x y=0→allP (prsN l (j+1)):=fun h0 z hz=>by
   rw[hsucc,List.mem_append] at hz
   rcases hz with hz|hz
   ·exact hps z hz
   ·simp at hz;subst hz;exact h0
  have hbad:chkE x y≠0→attrF l=(10,[]):=fun h0=>by
   rw[hF,if_neg]
   intro hall
   refine h0 (hall (x,y) ?_)
   rw[prsN,List.mem_map]
   exact ⟨j,by simp[hlt],by rw[List.getElem?_eq_getElem hi1,List.getElem?_eq_getElem hi2,hx,hy];rfl⟩
  have hpl:(pairsA (prsN l j)).length=j:=by simp[pairsA,prsN]
  have hap:pairsA (prsN l j)++[.agg [byteA x,byteA y]]=pairsA (prsN l (j+1)):=by rw[hsucc];simp[pairsA]
  have h01:=chkE_01 x y
  generalize chkE x y=er at*
  rw[hk]
  simp[hlt',hwj,b1,b2,t3,t4]
  intro q hq
  refine callK.of (hch _) ?_
  rintro v σ' ⟨rfl,rfl⟩
  by_cases h0:er=0
  ·have hgd:=hgood h0
   subst h0
   simp
   refine ⟨?_, ?_,j+1,⟨by omega,hgd⟩,by omega, ?_⟩
   ·omega
   ·omega
   ·refine ⟨⟨by rw[hap];exact AV.le_refl _, ?_⟩,sub_upd_self _ _ _ hq⟩
    rw[hwj2]
    refine le_of_eq ?_
    congr 2
  ·have h0':¬(er:Int)=0:=by omega
   have hb2:=hbad h0
   have hb3:attrN l=0:=by rw[hN,hb2];rfl
   obtain rfl:er=10:=by omega
   simp
   exact ⟨_,AV.le_refl _,_,sub_upd_self _ _ _ hq,true,by rw[hb2,hb3];rfl,rfl⟩
 ·obtain rfl:j=c.toNat:=by omega
  rw[if_pos hps] at hF
  rw[hF] at hN
  simp only[if_true] at hN
  have hge:¬((1+2*c.toNat:Nat):Int)<1+2*(c.toNat:Int):=by omega
  obtain ⟨k,hk⟩:∃k,1+2*c.toNat=k:=⟨_,rfl⟩
  have hk':(1+2*(c.toNat:Int))=(k:Int):=by omega
  rw[hk'] at hge⊢
  rw[hk] at hge⊢
  simp
  exact ⟨_,AV.le_refl _,_,Store.sub_refl _,true,by rw[hF,hN,←hk];rfl,rfl⟩
theorem attr_calls (o:Bool) (l:List UInt8) (σ:Store):ACalls Tryz.prog 108 [.list o 1 (bytesA l)] σ (AttrR l σ):=by
 rcases l with _|⟨c,tl⟩
 ·exact attr_empty o σ
 ·by_cases hs:((c::tl).length:Int)<1+2*(c.toNat:Int)
  ·exact attr_short o c tl σ hs
  ·exact attr_ok o c tl σ hs
theorem pairs_calls (b:Nat) (o:Bool) (l:List UInt8) (e:Nat) (σ:Store) (hb:σ b=some (scA o l e)) (hl:l.length≤1000000000):ACalls Tryz.prog 91 [ptrA b] σ (PairsR b l e σ):=by
 have ha:=attr_calls false l
 have hf:=fail_calls b o l e
 have ht:=take_ok b o l e
 have hb':=hb
 unfold scA at hb
 refine aw st91 pl91 24 Tryz.func91 rfl ?_
 simp[hb]
 refine callK.of (ha _) ?_
 rintro v σ' ⟨ow,rfl,rfl⟩
 have hn:(attrF l).1=0→attrN l≤l.length:=fun h=>by
  rw[attrN,if_pos h]
  rcases l with _|⟨c,tl⟩
  ·simp[attrF] at h
  ·simp only[attrF] at h
   split at h
   ·simp at h
   ·rename_i hlt;simpa using hlt
 have hne:(attrF l).1≠0→attrN l=0∧(attrF l).2=[]:=fun h=>by
  refine ⟨by rw[attrN,if_neg h], ?_⟩
  rcases l with _|⟨c,tl⟩
  ·rfl
  ·simp only[attrF] at h⊢
   split
   ·rfl
   ·rename_i h1
    split
    ·rename_i h2;rw[if_neg h1,if_pos h2] at h;exact absurd rfl h
    ·rfl
 rw[PairsR]
 generalize (attrF l).1=er at*
 generalize (attrF l).2=ps at*
 generalize attrN l=n at*
 by_cases h0:er=0
 ·subst h0
  simp
  refine callK.of (ht n _ hb' (hn rfl) (by omega)) ?_
  rintro v σ' ⟨rfl,rfl⟩
  simp
  exact ⟨_,AV.le_refl _,_,Store.sub_refl _,false,false,rfl,rfl⟩
 ·have h0':¬(er:Int)=0:=by omega
  simp[h0]
  refine callK.of (hf er _ hb') ?_
  rintro v σ' ⟨rfl,rfl⟩
  simp
  obtain ⟨rfl,rfl⟩:=hne h0
  exact ⟨_,AV.le_refl _,_,Store.sub_refl _,true,o,rfl,rfl⟩
def untilO (l:List UInt8):List UInt8:=l.takeWhile fun c=> !isOrd c
def fromO (l:List UInt8):List UInt8:=l.dropWhile fun c=> !isOrd c
theorem until_take {l:List UInt8} {i:Nat} (hi:i≤l.length) (h:∀j (hj:j<l.length),j<i→isOrd l[j]=false) (he:i=l.length∨∃hj:i<l.length,isOrd l[i]=true):l.take i=untilO l∧l.drop i=fromO l:=by
 induction l generalizing i with
 |nil=>simp[untilO,fromO]
 |cons c l ih=>
  cases i with
  |zero=>
   rcases he with he|⟨hj,he⟩
   ·simp at he
   ·simp at he
    simp[untilO,fromO,he]
  |succ i=>
   have h0:=h 0 (by simp) (by omega)
   simp at h0 hi
   have:=ih (i:=i) hi (fun j hj hji=>by have:=h (j+1) (by simp;omega) (by omega);simpa using this) (by
    rcases he with he|⟨hj,he⟩
    ·left;simp at he;exact he
    ·right;exact ⟨by simp at hj;omega,by simpa using he⟩)
   simp[untilO,fromO,h0] at this⊢
   exact this
theorem text_calls (b:Nat) (o:Bool) (l:List UInt8) (e:Nat) (σ:Store) (hb:σ b=some (scA o l e)) (hl:l.length≤1000000000):
  ACalls Tryz.prog 86 [ptrA b] σ fun v σ'=>v= .list true 1 (bytesA (untilO l))∧σ'=σ.upd b (scA false (fromO l) e):=by
 have ht:=take_ok b o l e
 have hb':=hb
 unfold scA at hb
 refine aw st86 pl86 28 Tryz.func86 rfl ?_
 simp
 refine codeK.loop follows (st:=st86) (plans:=pl86) (X:=Nat) (fun i=>i≤l.length∧∀j (hj:j<l.length),j<i→isOrd l[j]=false)
  (fun i=>[(0,ptrA b),(3, .lit (.int .i64 i))]) (fun _=>σ) (fun i=>l.length-i) 0 (by kernel_rfl) (by simp) (by simp) (Store.sub_refl _) fun i hi=> ?_
 obtain ⟨hi,hk⟩:=hi
 have fin:(i=l.length∨∃hj:i<l.length,isOrd l[i]=true)→ACalls Tryz.prog 87 [ptrA b, .lit (.int .i64 i)] σ (fun v σ'=>v= .list false 1 (bytesA (untilO l))∧σ'=σ.upd b (scA false (fromO l) e)):=fun he=>by
  obtain ⟨h1,h2⟩:=until_take hi hk he
  have:=ht i σ hb' hi (by omega)
  rw[h1,h2] at this
  exact this
 have hcl:=clone_calls false (untilO l)
 have hul:(untilO l).length≤l.length:=by unfold untilO;exact (List.takeWhile_sublist _).length_le
 by_cases hlt:i<l.length
 ·have hw:IntKind.i64.wrap ((i:Int)+1)=((i+1:Nat):Int):=wrap_i64 (by omega) (by omega)
  have his:=is_calls l[i]
  have hat:=bytesA_at l i hlt
  have hstep:isOrd l[i]=false→∀j (hj:j<l.length),j<i+1→isOrd l[j]=false:=fun h j hj hji=>by
   by_cases e:j=i
   ·subst e;exact h
   ·exact hk j hj (by omega)
  have hf2:isOrd l[i]=true→_:=fun h=>fin (.inr ⟨hlt,h⟩)
  generalize l[i]=c at*
  by_cases hc:isOrd c=true
  ·simp[hb,hlt,hat]
   refine callK.of (his _) ?_
   rintro v σ' ⟨rfl,rfl⟩
   simp[hc]
   refine callK.of (hf2 hc) ?_
   rintro v σ' ⟨rfl,rfl⟩
   simp
   refine callK.of (hcl _ (by omega)) ?_
   rintro v σ' ⟨rfl,rfl⟩
   simp
  ·have hc':isOrd c=false:=by simpa using hc
   simp[hb,hlt,hat]
   refine callK.of (his _) ?_
   rintro v σ' ⟨rfl,rfl⟩
   simp[hc']
   exact ⟨i+1,⟨by omega,hstep hc'⟩,by omega,by rw[hw];exact AV.le_refl _⟩
 ·obtain rfl:i=l.length:=by omega
  have hf2:=fin (.inl rfl)
  simp[hb]
  refine callK.of hf2 ?_
  rintro v σ' ⟨rfl,rfl⟩
  simp
  refine callK.of (hcl _ (by omega)) ?_
  rintro v σ' ⟨rfl,rfl⟩
  simp
end Go.Proofs.YtjnopnpkfhopbaaGreatDoor
