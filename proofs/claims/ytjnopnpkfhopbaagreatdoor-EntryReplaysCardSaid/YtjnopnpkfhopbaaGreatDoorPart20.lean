/-
 Orders, one behind the other.
-/
import Derived.Test.YtjnopnpkfhopbaaGreatDoorPart19
set_option linter.unusedSimpArgs false
set_option linter.unusedVariables false
set_option maxRecDepth 8000
set_option maxHeartbeats 8000000
namespace Go.Proofs.YtjnopnpkfhopbaaGreatDoor
open Go Go.AL Go.Sp
def runOps:List Op→Pen→Nat→Pen×Nat×Nat
 |[],p,k=>(p,k,0)
 |o::os,p,k=>if (p.do o).2≠0 then ((p.do o).1,k,(p.do o).2) else runOps os ((p.do o).1.mark o) (k+1)
def endE (r:Pen×Nat×Nat) (e:Nat):Pen×Nat×Nat:=if r.2.2≠0 then r else (r.1,r.2.1,e)
theorem ordN_run:∀(n:Nat) (l:List UInt8) (p:Pen) (k:Nat),ordN n l p k=endE (runOps (allN n l).1 p k) (allN n l).2
 |0,_,_,_=>rfl
 |_+1,[],_,_=>rfl
 |n+1,c::tl,p,k=>by
  unfold ordN allN
  by_cases he:(opF (c::tl)).1=0
  ·rw[if_neg (by simp[he]),if_pos he]
   simp only[runOps]
   by_cases hd:(p.do (opF (c::tl)).2.1).2=0
   ·rw[if_neg (by simp[hd]),if_neg (by simp[hd])]
    exact ordN_run n _ _ _
   ·rw[if_pos hd,if_pos hd];simp[endE,hd]
  ·rw[if_pos he,if_neg he];rfl
theorem ordS_run (l:List UInt8) (p:Pen) (k:Nat):ordS l p k=endE (runOps (allF l).1 p k) (allF l).2:=ordN_run _ _ _ _
structure OpOk (m:Nat) (o:Op):Prop where
 kind:o.kind=0∨isOrd (UInt8.ofNat o.kind)=true∧o.kind<256
 addr:0≤o.addr
 text:o.text.length≤m
 pairs:o.pairs.length≤256
theorem prsN_length (l:List UInt8) (n:Nat):(prsN l n).length=n:=by simp[prsN]
theorem attrF_length (l:List UInt8):(attrF l).2.length≤256:=by
 unfold attrF
 split
 ·simp
 ·rename_i c tl
  have:=c.toNat_lt
  split
  ·simp
  ·split
   ·rw[prsN_length];omega
   ·simp
theorem opF_ok {l:List UInt8} (h:l≠[]):OpOk l.length (opF l).2.1:=by
 rcases l with _|⟨c,tl⟩
 ·exact absurd rfl h
 have hu:(untilO (c::tl)).length≤(c::tl).length:=(List.takeWhile_sublist _).length_le
 by_cases hc:isOrd c=true
 ·rcases isOrd_cases hc with rfl|rfl|rfl|rfl|rfl|rfl|rfl|rfl|rfl|rfl
  ·rw[opF_5];exact ⟨.inr ⟨(by decide:isOrd 5=true),(by decide:5<256)⟩,by simp,by simp,by simp⟩
  ·rw[opF_8];exact ⟨.inr ⟨(by decide:isOrd 8=true),(by decide:8<256)⟩,by simp,by simp,by simp⟩
  ·rw[opF_17];exact ⟨.inr ⟨(by decide:isOrd 17=true),(by decide:17<256)⟩,by simp,by simp,by simp⟩
  ·rw[opF_18];exact ⟨.inr ⟨(by decide:isOrd 18=true),(by decide:18<256)⟩,by simp,by simp,by simp⟩
  ·rw[opF_19];exact ⟨.inr ⟨(by decide:isOrd 19=true),(by decide:19<256)⟩,by simp,by simp,by simp⟩
  ·rw[opF_29];exact ⟨.inr ⟨(by decide:isOrd 29=true),(by decide:29<256)⟩,by simp,by simp,by simp⟩
  ·rw[opF_40]
   refine ⟨.inr ⟨(by decide:isOrd 40=true),(by decide:40<256)⟩,by simp,by simp, ?_⟩
   show (prP tl).length≤256
   unfold prP;split<;>simp
  ·rw[opF_41];exact ⟨.inr ⟨(by decide:isOrd 41=true),(by decide:41<256)⟩,by simp,by simp,attrF_length tl⟩
  ·rw[opF_44];exact ⟨.inr ⟨(by decide:isOrd 44=true),(by decide:44<256)⟩,by simp,by simp,attrF_length tl⟩
  ·rw[opF_60];exact ⟨.inr ⟨(by decide:isOrd 60=true),(by decide:60<256)⟩,by simp,by simp,by simp⟩
 ·rw[opF_text c tl (by simpa using hc)]
  exact ⟨.inl rfl,by simp[txtOp],hu,by simp[txtOp]⟩
theorem allN_ok:∀(n:Nat) (l:List UInt8) (m:Nat),l.length≤m→∀o∈(allN n l).1,OpOk m o
 |0,_,_,_=>fun o ho=>by simp[allN] at ho
 |_+1,[],_,_=>fun o ho=>by simp[allN] at ho
 |n+1,c::tl,m,hm=>fun o ho=>by
  have h1:=opF_ok (l:=c::tl) (by simp)
  have h2:=opF_len (l:=c::tl) (by simp)
  unfold allN at ho
  split at ho
  ·rcases List.mem_cons.1 ho with rfl|ho
   ·exact ⟨h1.kind,h1.addr,Nat.le_trans h1.text hm,h1.pairs⟩
   ·exact allN_ok n _ m (by omega) o ho
  ·simp at ho
theorem allF_ok {l:List UInt8} :∀o∈(allF l).1,OpOk l.length o:=allN_ok _ _ _ (Nat.le_refl _)
theorem allN_count:∀(n:Nat) (l:List UInt8),(allN n l).1.length≤n
 |0,_=>by simp[allN]
 |_+1,[]=>by simp[allN]
 |n+1,c::tl=>by
  unfold allN;split
  ·have:=allN_count n (opF (c::tl)).2.2;simp;omega
  ·simp
theorem allF_count (l:List UInt8):(allF l).1.length≤l.length:=allN_count _ _
structure Or (σ ρ:Store) (q r z b9 b10:Nat) (s:Sp) (k:Nat) (p:Pen):Prop where
 pen:Pn ρ z q r p
 ok:PenOk s p
 sub:Store.sub (putS spO σ q r p.s) ρ
 i9:ρ b9=some [ptrA z]
 i10:ρ b10=some [.lit (.int .i64 k)]
theorem Or.next {σ ρ:Store} {q r z b9 b10:Nat} {s:Sp} {k:Nat} {p:Pen} (h:Or σ ρ q r z b9 b10 s k p) {t:Nat} (ht:ρ t=none) (X:List AV) {p':Pen} (hp:PenOk s p') (hz:σ z=none) (h10:σ b10=none) (n9:¬b9=z∧¬b9=q∧¬b9=r∧¬b9=b10) (n10:¬b10=z∧¬b10=q∧¬b10=r):
  Or σ ((pn (ρ.upd t X) z q r p').upd b10 [.lit (.int .i64 (k+1:Nat))]) q r z b9 b10 s (k+1) p':=by
 have ht9:¬b9=t:=by rintro rfl;rw[h.i9] at ht;cases ht
 have htq:¬t=q∧¬t=r:=by
  have:=h.pen.fresh ht
  exact ⟨fun e=>this.2.2.1 e.symm,fun e=>this.2.2.2.1 e.symm⟩
 have hP:=(h.pen.new ht X).to p' hp.same.1
 refine ⟨⟨?_,hP.scr.upd ⟨Ne.symm n10.2.1,Ne.symm n10.2.2⟩ _,hP.zq,hP.zr⟩,hp,Store.sub2 (fun o=> ?_) (fun i=> ?_), ?_,by simp⟩
 ·simp only[supd_apply,if_neg (Ne.symm n10.1)];exact hP.pen
 ·by_cases e1:o=q
  ·subst e1;right;simp[pn,putS,Ne.symm n10.2.1,Ne.symm hP.zq]
  by_cases e2:o=r
  ·subst e2;right;simp[pn,putS,Ne.symm n10.2.2,Ne.symm hP.zr]
  rw[putS_at e1 e2]
  by_cases e3:o=b10
  ·subst e3;exact .inl h10
  by_cases e4:o=z
  ·subst e4;exact .inl hz
  have hs:=h.sub o
  rw[putS_at e1 e2] at hs
  rw[supd_apply,if_neg e3,pn_at e4 e1 e2,supd_apply]
  split
  ·rename_i e5;subst e5
   rcases hs with hs|hs
   ·exact .inl hs
   ·left;rw[hs,ht]
  ·exact hs
 ·have hs:=h.sub (mkey i)
  simpa[pn,putS] using hs
 ·simp only[supd_apply,if_neg n9.2.2.2]
  rw[pn_at n9.1 n9.2.1 n9.2.2.1,supd_apply,if_neg ht9];exact h.i9
theorem parX_length (l:List UInt8):(parX l).length=(allF l).1.length+if (allF l).2=0 then 0 else 1:=by
 unfold parX;rw[List.length_append,List.length_map];congr 1;split<;>rfl
theorem parX_get_ok {l:List UInt8} {k:Nat} (h:k<(allF l).1.length) (h2:k<(parX l).length):(parX l)[k]=okX (allF l).1[k]:=by
 rw[List.getElem_eq_iff]
 unfold parX
 rw[List.getElem?_append_left (by simpa using h),List.getElem?_map,List.getElem?_eq_getElem h];rfl
theorem parX_get_bad {l:List UInt8} {k:Nat} (h:¬k<(allF l).1.length) (h2:k<(parX l).length):(allF l).2≠0∧(parX l)[k]=badX (allF l).2:=by
 have hl:=parX_length l
 by_cases he:(allF l).2=0
 ·rw[if_pos he] at hl;omega
 ·refine ⟨he, ?_⟩
  rw[if_neg he] at hl
  have hk:k=(allF l).1.length:=by omega
  subst hk
  rw[List.getElem_eq_iff]
  unfold parX
  rw[List.getElem?_append_right (by simp),if_neg he]
  simp
def pen0 (s:Sp) (n:Nat):Pen:=⟨s,n, .zero,false⟩
theorem orders_calls {q r:Nat} {s:Sp} {σ:Store} (h:Prg σ q r s) (o:Bool) (l:List UInt8) (hl:l.length≤1000000000) (n:Int):ACalls Tryz.prog 67 [ptrA q, .list o 1 (bytesA l), .lit (.int .i64 n)] σ fun v σ'=>
  v= .tuple [.lit (.int .i64 ((ordS l (pen0 s (wrap s.n n)) 0).1.n:Nat)), .lit (.int .i64 ((ordS l (pen0 s (wrap s.n n)) 0).2.1:Nat)), .lit (.int .i64 ((ordS l (pen0 s (wrap s.n n)) 0).2.2:Nat))]∧σ'=putS spO σ q r (ordS l (pen0 s (wrap s.n n)) 0).1.s:=by
 have hsz:=fun τ (hτ:Prg τ q r s)=>size_calls hτ
 have hw:=fun τ=>swrap_calls s n τ
 have hwl:=wrap_lt s.n_pos n
 have hnl:=s.n_le
 have hpc:=fun τ=>parse_calls2 false l τ
 have hcnt:=allF_count l
 have hok:= @allF_ok l
 generalize wrap s.n n=m at*
 rw[ordS_run]
 refine ACalls.of_awpY follows (st:=st67) (plans:=pl67) (n:=57) Tryz.func67 rfl (by kernel_rfl) (by kernel_rfl) (by kernel_rfl) ?_
 simp+contextual [ite_free]
 intro b6 h6 b7 a1 a2 h7 b8 a3 a4 a5 a6 h8
 have f6:=h.fresh h6
 have f7:=h.fresh h7
 have f8:=h.fresh h8
 have l6:=(Lv.refl h).new h6 [.lit (.int .i64 0)]
 have l7:=l6.new (b:=b7) (by simp[a1,h7]) [.lit (.int .i64 0)]
 have l8:=l7.new (b:=b8) (by simp[a3,a5,h8]) [.lit (.int .i64 0)]
 refine callK.of (hsz _ l8.prg) ?_
 rintro v σ2 ⟨rfl,rfl⟩
 simp
 refine callK.of (hw _) ?_
 rintro v σ2 ⟨rfl,rfl⟩
 simp+contextual [ite_free]
 intro z z1 z2 z3 z4 z5 z6 hz b9 y1 y2 y3 y4 y5 y6 y7 y8 h9 b10 w1 w2 w3 w4 w5 w6 w7 w8 w9 w10 h10
 have fz:=h.fresh hz
 have f9:=h.fresh h9
 have f10:=h.fresh h10
 have hzero:∀a b c d e f:AV,True:=fun _ _ _ _ _ _=>trivial
 refine callK.of (hpc _) ?_
 rintro v σ2 ⟨bp,hbp,rfl,rfl⟩
 simp only[supd_apply,ite_none] at hbp
 obtain ⟨p10,p9,pz,p8,p7,p6,hbp⟩:=hbp
 have hrun:∀k,k≤(allF l).1.length→True:=fun _ _=>trivial
 generalize hR:endE (runOps (allF l).1 (pen0 s m) 0) (allF l).2=R at*
 have hit:=parse_iter bp false l hl ((((((((σ.upd b6 [.lit (.int .i64 0)]).upd b7 [.lit (.int .i64 0)]).upd b8 [.lit (.int .i64 0)]).upd z (penO q (pen0 s m))).upd b9 [ptrA z]).upd b10 [.lit (.int .i64 0)]).upd bp [.list false 1 (bytesA l)])) (by simp)
 simp
 refine codeYK.range follows (st:=st67) (plans:=pl67) hit (by simp) (by simp) (by
   intro x hx
   unfold parX at hx
   rcases List.mem_append.1 hx with hx|hx
   ·obtain ⟨_,_,rfl⟩:=List.mem_map.1 hx;rfl
   ·split at hx
    ·cases hx
    ·simp at hx;subst hx;rfl) (by kernel_rfl) (by kernel_rfl) (by kernel_rfl)
  (fun k ρ E=>∃p,Or σ ρ q r z b9 b10 s k p∧k≤(allF l).1.length∧endE (runOps ((allF l).1.drop k) p k) (allF l).2=R∧ρ b6=some [.lit (.int .i64 0)]∧ρ b7=some [.lit (.int .i64 0)]∧ρ b8=some [.lit (.int .i64 0)])
  (fun c ρ E=>c= .ret∧Store.sub (putS spO σ q r R.1.s) ρ∧ρ b6=some [.lit (.int .i64 (R.1.n:Nat))]∧ρ b7=some [.lit (.int .i64 (R.2.1:Nat))]∧ρ b8=some [.lit (.int .i64 (R.2.2:Nat))])
  _ ?_ (Store.sub_refl _) ?_ ?_ ?_
 ·have lz:=l8.new (b:=z) (by simp[z1,z3,z5,hz]) (penO q (pen0 s m))
  have l9:=lz.new (b:=b9) (by simp[y1,y3,y5,y7,h9]) [ptrA z]
  have l10:=l9.new (b:=b10) (by simp[w1,w3,w5,w7,w9,h10]) [.lit (.int .i64 0)]
  have lb:=l10.new (b:=bp) (by simp[p10,p9,pz,p8,p7,p6,hbp]) [.list false 1 (bytesA l)]
  refine ⟨pen0 s m,⟨⟨?_,lb.prg,fz.2.2.1,fz.2.2.2⟩,⟨SameN.refl h.good,hwl⟩,lb.sub, ?_, ?_⟩,Nat.zero_le _, ?_, ?_, ?_, ?_⟩
  ·simp[Ne.symm pz,w4,y2,penO,pen0,Cell.zero,byteA_zero]
  ·simp[Ne.symm p9,w2]
  ·simp[Ne.symm p10]
  ·rw[List.drop_zero];exact hR
  ·simp[Ne.symm p6,w10,y8,z6,a6,a2]
  ·simp[Ne.symm p7,w8,y6,z4,a4]
  ·simp[Ne.symm p8,w6,y4,z2]
 ·rintro k hk ρ E ⟨p,hO,hkl,hRk,i6,i7,i8⟩
  have hPf:=fun b hb=>hO.pen.fresh (b:=b) hb
  have hpn:=hO.pen.pen
  unfold penO at hpn
  by_cases hlt:k<(allF l).1.length
  ·rw[parX_get_ok hlt hk]
   rw[List.drop_eq_getElem_cons hlt] at hRk
   have ho:=hok _ (List.getElem_mem hlt)
   generalize (allF l).1[k]=op at*
   have hdo:=fun τ (hτ:Pn τ z q r p)=>pdo_calls hτ (by have:=hO.ok.lt;rw[hO.ok.same.n];exact this) op ho.kind ho.addr (Nat.le_trans ho.text hl) (Nat.le_trans ho.pairs (by decide))
   have hpo:=hO.ok.do op
   simp only[runOps] at hRk
   have hoc:opA op= .agg (opC op):=rfl
   rw[okX,hoc,opC_eq]
   rw[hoc,opC_eq] at hdo
   generalize hX:[AV.lit (.int .i64 op.kind), .lit (.int .i64 op.addr),byteA op.code, .lit (.bool op.graph),byteA op.fa, .list false 2 (pairsA op.pairs), .list false 1 (bytesA op.text)]=X at*
   generalize hd:p.do op=d at*
   obtain ⟨p',e⟩:=d
   dsimp only at hdo hpo hRk
   rw[←hX]
   simp
   intro t ht
   obtain ⟨t1,t2,t3,t4,t5,t6⟩:=hPf t ht
   have k9:¬b9=t:=by rintro rfl;rw[hO.i9] at ht;cases ht
   have k10:¬b10=t:=by rintro rfl;rw[hO.i10] at ht;cases ht
   have k6:¬b6=t:=by rintro rfl;rw[i6] at ht;cases ht
   have k7:¬b7=t:=by rintro rfl;rw[i7] at ht;cases ht
   have k8:¬b8=t:=by rintro rfl;rw[i8] at ht;cases ht
   have hT:=hO.pen.new ht X
   have hP2:Pn (pn (ρ.upd t X) z q r p') z q r p':=hT.to p' hpo.same.1
   have hsub2:Store.sub (putS spO σ q r p'.s) (pn (ρ.upd t X) z q r p'):=by
    have hn:=hO.next ht X hpo hz h10 ⟨y1,f9.2.2.1,f9.2.2.2,w2⟩ ⟨w3,f10.2.2.1,f10.2.2.2⟩
    refine Store.sub2 (fun o=> ?_) (fun i=>by simpa using hn.sub (mkey i))
    have:=hn.sub o
    by_cases e1:o=b10
    ·subst e1;left;rw[putS_at f10.2.2.1 f10.2.2.2];exact h10
    ·rwa[supd_apply,if_neg e1] at this
   have s9:pn (ρ.upd t X) z q r p' b9=some [ptrA z]:=by rw[pn_at y1 f9.2.2.1 f9.2.2.2,supd_apply,if_neg k9];exact hO.i9
   have s10:pn (ρ.upd t X) z q r p' b10=some [.lit (.int .i64 k)]:=by rw[pn_at w3 f10.2.2.1 f10.2.2.2,supd_apply,if_neg k10];exact hO.i10
   have s6:pn (ρ.upd t X) z q r p' b6=some [.lit (.int .i64 0)]:=by rw[pn_at z6 f6.2.2.1 f6.2.2.2,supd_apply,if_neg k6];exact i6
   have s7:pn (ρ.upd t X) z q r p' b7=some [.lit (.int .i64 0)]:=by rw[pn_at z4 f7.2.2.1 f7.2.2.2,supd_apply,if_neg k7];exact i7
   have s8:pn (ρ.upd t X) z q r p' b8=some [.lit (.int .i64 0)]:=by rw[pn_at z2 f8.2.2.1 f8.2.2.2,supd_apply,if_neg k8];exact i8
   have st:pn (ρ.upd t X) z q r p' t=some X:=by rw[pn_at t2 t5 t6];simp
   have sz:=hP2.pen
   unfold penO at sz
   have hfinal:∀B,(p'.mark op).texts=B→Or σ (((pn (ρ.upd t X) z q r p').upd z [ptrA q, .lit (.int .i64 p'.n),byteA p'.look.char, .lit (.bool p'.look.attr),byteA p'.look.fa,byteA p'.look.high,byteA p'.look.color,byteA p'.look.set, .lit (.bool B)]).upd b10 [.lit (.int .i64 (k+1:Nat))]) q r z b9 b10 s (k+1) (p'.mark op):=fun B hB=>by
    have hn:=hO.next ht X (hpo.mark op) hz h10 ⟨y1,f9.2.2.1,f9.2.2.2,w2⟩ ⟨w3,f10.2.2.1,f10.2.2.2⟩
    have e1:(pn (ρ.upd t X) z q r p').upd z (penO q (p'.mark op))=pn (ρ.upd t X) z q r (p'.mark op):=by
     rw[pn_pen hP2 (p'.mark op) rfl,pn_pn _ _ hT.scr.ne hT.zq hT.zr]
    have e2:penO q (p'.mark op)=[ptrA q, .lit (.int .i64 p'.n),byteA p'.look.char, .lit (.bool p'.look.attr),byteA p'.look.fa,byteA p'.look.high,byteA p'.look.color,byteA p'.look.set, .lit (.bool B)]:=by rw[←hB];rfl
    rw[←e2,e1];exact hn
   have hw1:IntKind.i64.wrap ((k:Int)+1)=((k+1:Nat):Int):=wrap_i64 (by omega) (by omega)
   rw[hX]
   simp[k9,hO.i9]
   rw[←hX] at st
   have hX0:X[0]?=some (.lit (.int .i64 op.kind)):=by rw[←hX];rfl
   have hX7:mkAV true (List.take 7 X)=some (.agg X):=by rw[←hX];rfl
   have hXl:7≤X.length:=by rw[←hX];simp
   have hXd:X.map AV.drop1=X:=by rw[←hX];simp
   have hXd2:X.map (AV.drop1∘AV.drop1)=X:=by rw[←List.map_map,hXd,hXd]
   simp[hX7,hXl,hXd]
   refine callK.of (hdo _ hT) ?_
   rintro v σ3 ⟨rfl,rfl⟩
   have st':pn (ρ.upd t X) z q r p' t=some X:=by rw[pn_at t2 t5 t6];simp
   by_cases e0:e=0
   ·subst e0
    rw[if_neg (by simp)] at hRk
    by_cases kk0:op.kind=0
    ·have hf:=hfinal true (by simp[Pen.mark,kk0])
     simp[s9,s10,st',hX0,kk0,sz,w3]
     rw[hw1]
     refine ⟨_,Store.sub_refl _,_,hf,by omega,hRk, ?_, ?_, ?_⟩
     ·simp[w10,z6,s6]
     ·simp[w8,z4,s7]
     ·simp[w6,z2,s8]
    ·have kk0':¬(op.kind:Int)=0:=by omega
     by_cases kk8:op.kind=8
     ·have hf:=hfinal true (by simp[Pen.mark,kk8])
      simp[s9,s10,st',hX0,kk8,sz,w3]
      rw[hw1]
      refine ⟨_,Store.sub_refl _,_,hf,by omega,hRk, ?_, ?_, ?_⟩
      ·simp[w10,z6,s6]
      ·simp[w8,z4,s7]
      ·simp[w6,z2,s8]
     ·have kk8':((op.kind:Int)==8)=false:=by simp;omega
      have hf:=hfinal false (by simp[Pen.mark,kk0,kk8])
      simp[s9,s10,st',hX0,kk0,kk8',sz,w3]
      rw[hw1]
      refine ⟨_,Store.sub_refl _,_,hf,by omega,hRk, ?_, ?_, ?_⟩
      ·simp[w10,z6,s6]
      ·simp[w8,z4,s7]
      ·simp[w6,z2,s8]
   ·rw[if_pos e0] at hRk
    have e0':¬(e:Int)=0:=by omega
    have hRe:R=(p',k,e):=by rw[←hRk];simp[endE,e0]
    subst hRe
    simp[s9,s10,e0,sz,s6,s7]
    refine ⟨?_, ?_⟩
    all_goals
     have hfr:Store.sub (putS spO σ q r p'.s) ((((pn (ρ.upd t X) z q r p').upd b6 [.lit (.int .i64 p'.n)]).upd b7 [.lit (.int .i64 k)]).upd b8 [.lit (.int .i64 e)]):=by
      refine Store.sub2 (fun o=> ?_) (fun i=>by simpa using hsub2 (mkey i))
      by_cases c8:o=b8
      ·subst c8;left;rw[putS_at f8.2.2.1 f8.2.2.2];exact h8
      by_cases c7:o=b7
      ·subst c7;left;rw[putS_at f7.2.2.1 f7.2.2.2];exact h7
      by_cases c6:o=b6
      ·subst c6;left;rw[putS_at f6.2.2.1 f6.2.2.2];exact h6
      simp only[supd_apply,if_neg c8,if_neg c7,if_neg c6];exact hsub2 o
     simp[s7,s8,a1,a3,a5,w9]
     exact ⟨_,Store.sub_refl _,hfr,by simp[a2,a6],by simp[a4],by simp⟩
  ·obtain ⟨he,hg⟩:=parX_get_bad hlt hk
   rw[hg,badX]
   have hz:opA {} = .agg [.lit (.int .i64 0), .lit (.int .i64 0), .lit (.int .u8 0), .lit (.bool false), .lit (.int .u8 0), .list false 2 [], .list false 1 []]:=rfl
   rw[hz]
   have he':¬((allF l).2:Int)=0:=by omega
   have hko:k=(allF l).1.length:=by omega
   subst hko
   rw[List.drop_length] at hRk
   have hRe:R=(p,(allF l).1.length,(allF l).2):=by rw[←hRk];simp[runOps,endE]
   subst hRe
   simp[he]
   intro t ht
   have k9:¬b9=t:=by rintro rfl;rw[hO.i9] at ht;cases ht
   have k10:¬b10=t:=by rintro rfl;rw[hO.i10] at ht;cases ht
   have k6:¬b6=t:=by rintro rfl;rw[i6] at ht;cases ht
   have k7:¬b7=t:=by rintro rfl;rw[i7] at ht;cases ht
   have k8:¬b8=t:=by rintro rfl;rw[i8] at ht;cases ht
   have kz:=(hPf t ht).1
   simp[k9,k10,hO.i9,hO.i10,kz,hpn,k6,k7,i6,i7]
   refine ⟨?_, ?_⟩
   all_goals
    have hfr:∀Z,Store.sub (putS spO σ q r p.s) ((((ρ.upd t Z).upd b6 [.lit (.int .i64 p.n)]).upd b7 [.lit (.int .i64 (allF l).1.length)]).upd b8 [.lit (.int .i64 (allF l).2)]):=fun Z=>by
     refine Store.sub2 (fun o=> ?_) (fun i=>by simpa using hO.sub (mkey i))
     by_cases c8:o=b8
     ·subst c8;left;rw[putS_at f8.2.2.1 f8.2.2.2];exact h8
     by_cases c7:o=b7
     ·subst c7;left;rw[putS_at f7.2.2.1 f7.2.2.2];exact h7
     by_cases c6:o=b6
     ·subst c6;left;rw[putS_at f6.2.2.1 f6.2.2.2];exact h6
     simp only[supd_apply,if_neg c8,if_neg c7,if_neg c6]
     by_cases ct:o=t
     ·subst ct
      have:=hO.sub o
      rw[if_pos rfl]
      rcases this with this|this
      ·exact .inl this
      ·left;rw[this,ht]
     ·rw[if_neg ct];exact hO.sub o
    simp[i7,i8,k7,k8,a1,a3,a5,w9]
    exact ⟨_,Store.sub_refl _,hfr _,by simp[a2,a6],by simp[a4],by simp⟩
 ·rintro ρ E2 σ2 hs2 ⟨p,hO,hkl,hRk,i6,i7,i8⟩
  have hl2:=parX_length l
  have he0:(allF l).2=0:=by
   by_cases he:(allF l).2=0
   ·exact he
   ·rw[if_neg he] at hl2;omega
  rw[if_pos he0] at hl2
  rw[hl2,Nat.add_zero,List.drop_length] at hRk
  have hRe:R=(p,(allF l).1.length,0):=by rw[←hRk,he0];simp[runOps,endE]
  subst hRe
  have j6:=sub_at i6 hs2
  have j7:=sub_at i7 hs2
  have j8:=sub_at i8 hs2
  have j9:=sub_at hO.i9 hs2
  have j10:=sub_at hO.i10 hs2
  have jz:=sub_at hO.pen.pen hs2
  rw[hl2,Nat.add_zero] at j10
  unfold penO at jz
  have hfr:Store.sub (putS spO σ q r p.s) (((σ2.upd b6 [.lit (.int .i64 p.n)]).upd b7 [.lit (.int .i64 (allF l).1.length)]).upd b8 [.lit (.int .i64 0)]):=by
   refine Store.sub2 (fun o=> ?_) (fun i=>by simpa using Store.sub_trans hO.sub hs2 (mkey i))
   by_cases c8:o=b8
   ·subst c8;left;rw[putS_at f8.2.2.1 f8.2.2.2];exact h8
   by_cases c7:o=b7
   ·subst c7;left;rw[putS_at f7.2.2.1 f7.2.2.2];exact h7
   by_cases c6:o=b6
   ·subst c6;left;rw[putS_at f6.2.2.1 f6.2.2.2];exact h6
   simp only[supd_apply,if_neg c8,if_neg c7,if_neg c6]
   exact Store.sub_trans hO.sub hs2 o
  simp[j6,j7,j8,j9,j10,jz,a1,a2,a3,a4,a5,a6,w9]
  exact hfr
 ·rintro c ρ E2 σ2 hs2 ⟨rfl,hsub,i6,i7,i8⟩
  have j6:=sub_at i6 hs2
  have j7:=sub_at i7 hs2
  have j8:=sub_at i8 hs2
  simp[j6,j7,j8]
  exact Store.sub_trans hsub hs2
theorem ad_some {l:List UInt8} (h:adE l=0):∃x y tl,l=x::y::tl:=by
 rcases l with _|⟨x,_|⟨y,tl⟩⟩
 ·simp[adE] at h
 ·simp[adE] at h
 ·exact ⟨x,y,tl,rfl⟩
theorem runOps_append:∀(os os2:List Op) (p:Pen) (k:Nat),(runOps os p k).2.2=0→runOps (os++os2) p k=runOps os2 (runOps os p k).1 (runOps os p k).2.1
 |[],_,_,_,_=>rfl
 |o::os,os2,p,k,h=>by
  have e:∀l,runOps (o::l) p k=if (p.do o).2≠0 then ((p.do o).1,k,(p.do o).2) else runOps l ((p.do o).1.mark o) (k+1):=fun _=>rfl
  rw[e] at h
  rw[List.cons_append,e,e]
  by_cases hd:(p.do o).2≠0
  ·rw[if_pos hd] at h;exact absurd h hd
  ·rw[if_neg hd] at h
   rw[if_neg hd,if_neg hd]
   exact runOps_append os os2 _ _ h
def seO (out:List UInt8) (last:Cell) (mode:Nat):List AV:=[.list true 1 (bytesA out),byteA last.char, .lit (.bool last.attr),byteA last.fa,byteA last.high,byteA last.color,byteA last.set, .lit (.int .i64 mode)]
def codeB (c:UInt8):UInt8:=if isOrd c=true then 0x3f else c
def charB (c:Cell):List UInt8:=(if c.set=0xf1 then [8] else [])++[codeB c.char]
def someB (c:Cell):List UInt8:=if c.char=0 then [] else charB c
theorem saddr_calls (z:Nat) (out:List UInt8) (last:Cell) (mode n:Nat) (hn:n<4096) (ho:out.length≤1000000000) (σ:Store) (hz:σ z=some (seO out last mode)):
  ACalls Tryz.prog 51 [ptrA z, .lit (.int .i64 n)] σ fun v σ'=>v= .tuple []∧σ'=σ.upd z (seO (out++encM n) last mode):=by
 have he:=fun σ=>enc_calls (n:Int) σ
 have hok:okAddr (n:Int):=⟨by omega,by omega⟩
 have her:encR (n:Int)=[.list true 1 (bytesA (encM n)), .lit (.int .i64 0)]:=by rw[encR,if_pos hok];rfl
 rw[her] at he
 have h2:(encM n).length=2:=rfl
 have hap:=bytesA_append out (encM n)
 have hse:seO (out++encM n) last mode=[.list true 1 (bytesA out++bytesA (encM n)),byteA last.char, .lit (.bool last.attr),byteA last.fa,byteA last.high,byteA last.color,byteA last.set, .lit (.int .i64 mode)]:=by rw[←hap];rfl
 rw[hse]
 unfold seO at hz
 generalize encM n=e at*
 refine aw st51 pl51 22 Tryz.func51 rfl ?_
 simp
 refine callK.of (he _) ?_
 rintro v σ' ⟨rfl,rfl⟩
 simp[hz,h2]
 omega
theorem schar_calls (z:Nat) (out:List UInt8) (last:Cell) (mode:Nat) (hm:mode<2) (c:Cell) (ho:out.length≤1000000000) (σ:Store) (hz:σ z=some (seO out last mode)):
  ACalls Tryz.prog 27 [ptrA z,cellA c] σ fun v σ'=>v= .tuple []∧σ'=σ.upd z (seO (out++charB c) last mode):=by
 have hi:=is_calls c.char
 have hm2:¬(mode:Int)=2:=by omega
 rw[cellA_eq]
 have hc8:bytesA [8]=[.lit (.int .u8 8)]:=rfl
 refine aw st27 pl27 69 Tryz.func27 rfl ?_
 have hs1:∀l,seO l last mode=[.list true 1 (bytesA l),byteA last.char, .lit (.bool last.attr),byteA last.fa,byteA last.high,byteA last.color,byteA last.set, .lit (.int .i64 mode)]:=fun _=>rfl
 rw[hs1] at hz
 have hzb:∀b:Nat,σ b=none→¬z=b:=by rintro b hb rfl;rw[hz] at hb;cases hb
 by_cases hset:c.set=0xf1
 ·have hse:(c.set.toNat:Int)=241:=by rw[hset];rfl
  have e1:byteA c.set= .lit (.int .u8 241):=by rw[byteA,hse]
  rw[e1]
  by_cases hor:isOrd c.char=true
  ·have hch:charB c=[8,0x3f]:=by simp[charB,codeB,hset,hor]
   rw[hor] at hi
   rw[hch,hs1,bytesA_append,show bytesA [8,0x3f]=[.lit (.int .u8 8), .lit (.int .u8 63)] from rfl]
   simp
   intro b hb
   have n1:=hzb b hb
   have n2:=Ne.symm n1
   simp[hz,n1,n2,hm2]
   refine ⟨by omega,by omega, ?_⟩
   refine callK.of (hi _) ?_
   rintro v σ' ⟨rfl,rfl⟩
   simp
   refine ⟨by omega,by omega, ?_⟩
   (intro q;simp only[Store.upd,Store.del];(repeat' split)<;>first|exact Or.inr rfl|exact Or.inl rfl|(exfalso;omega)|(left;subst_vars;assumption)|simp_all)
  ·have hch:charB c=[8,c.char]:=by simp[charB,codeB,hset,hor]
   rw[show isOrd c.char=false by simpa using hor] at hi
   rw[hch,hs1,bytesA_append,show bytesA [8,c.char]=[.lit (.int .u8 8),byteA c.char] from rfl]
   simp
   intro b hb
   have n1:=hzb b hb
   have n2:=Ne.symm n1
   simp[hz,n1,n2,hm2]
   refine ⟨by omega,by omega, ?_⟩
   refine callK.of (hi _) ?_
   rintro v σ' ⟨rfl,rfl⟩
   simp
   refine ⟨by omega,by omega, ?_⟩
   (intro q;simp only[Store.upd,Store.del];(repeat' split)<;>first|exact Or.inr rfl|exact Or.inl rfl|(exfalso;omega)|(left;subst_vars;assumption)|simp_all)
 ·have hse:¬(c.set.toNat:Int)=241:=fun h=>hset (UInt8.toNat_inj.1 (by have:(0xf1:UInt8).toNat=241:=rfl;omega))
  have e1:byteA c.set= .lit (.int .u8 c.set.toNat):=rfl
  rw[e1]
  by_cases hor:isOrd c.char=true
  ·have hch:charB c=[0x3f]:=by simp[charB,codeB,hset,hor]
   rw[hor] at hi
   rw[hch,hs1,bytesA_append,show bytesA [0x3f]=[.lit (.int .u8 63)] from rfl]
   simp
   intro b hb
   have n1:=hzb b hb
   have n2:=Ne.symm n1
   simp[hz,n1,hm2,hse]
   refine callK.of (hi _) ?_
   rintro v σ' ⟨rfl,rfl⟩
   simp[hz,n1]
   refine ⟨by omega,by omega, ?_⟩
   (intro q;simp only[Store.upd,Store.del];(repeat' split)<;>first|exact Or.inr rfl|exact Or.inl rfl|(exfalso;omega)|(left;subst_vars;assumption)|simp_all)
  ·have hch:charB c=[c.char]:=by simp[charB,codeB,hset,hor]
   rw[show isOrd c.char=false by simpa using hor] at hi
   rw[hch,hs1,bytesA_append,show bytesA [c.char]=[byteA c.char] from rfl]
   simp
   intro b hb
   have n1:=hzb b hb
   have n2:=Ne.symm n1
   simp[hz,n1,hm2,hse]
   refine callK.of (hi _) ?_
   rintro v σ' ⟨rfl,rfl⟩
   simp[hz,n1]
   refine ⟨by omega,by omega, ?_⟩
   (intro q;simp only[Store.upd,Store.del];(repeat' split)<;>first|exact Or.inr rfl|exact Or.inl rfl|(exfalso;omega)|(left;subst_vars;assumption)|simp_all)
def isPA (a:UInt8):Bool:=a==0x6c||a==0x6e||a==0x6b
def isShort (a:UInt8):Bool:=a==0x6d||isPA a
@[simp] def st47s:List Nat:=[1000024,32]
def headB (s:Sp) (aid:UInt8):List UInt8:=aid::encM s.cursor
theorem begin_long {q p:Nat} {s:Sp} {σ:Store} (h:Prg σ q p s) (aid:UInt8) (mode:Nat) (hm:mode<3):ACalls Tryz.prog 24 [ptrA q,byteA aid, .lit (.int .i64 mode), .lit (.bool false)] σ fun v σ'=>∃z:Nat,σ z=none∧v= .tuple [ptrA z, .lit (.int .i64 0)]∧σ'=σ.upd z (seO (headB s aid) .zero mode):=by
 have hcu:=fun τ (hτ:Prg τ q p s)=>cursor_calls hτ
 have hc4:s.cursor<4096:=by have:=h.good.cursor;have:=s.n_le;omega
 have had:=fun z τ (hτ:τ z=some (seO [aid] .zero mode))=>saddr_calls z [aid] .zero mode s.cursor hc4 (by simp) τ hτ
 have hhd:[aid]++encM s.cursor=headB s aid:=rfl
 rw[hhd] at had
 have hs1:seO [aid] .zero mode=[.list true 1 [byteA aid], .lit (.int .u8 0), .lit (.bool false), .lit (.int .u8 0), .lit (.int .u8 0), .lit (.int .u8 0), .lit (.int .u8 0), .lit (.int .i64 mode)]:=rfl
 rw[hs1] at had
 generalize seO (headB s aid) .zero mode=fin at*
 have hm2:¬(mode:Int)<0:=by omega
 have hm3:¬(2:Int)<mode:=by omega
 refine aw st47s pl24 33 Tryz.func24 rfl ?_
 simp[hm2,hm3]
 intro z hz
 obtain ⟨m1,m2,m3,m4⟩:=h.fresh hz
 refine callK.of (hcu _ (h.new hz _)) ?_
 rintro v σ' ⟨rfl,rfl⟩
 simp
 refine callK.of (had z _ (by simp)) ?_
 rintro v σ' ⟨rfl,rfl⟩
 simp
 refine ⟨_,AV.le_refl _,_, ?_,z,hz,rfl,rfl⟩
 (intro q;simp only[Store.upd,Store.del];(repeat' split)<;>first|exact Or.inr rfl|exact Or.inl rfl|(exfalso;omega)|(left;subst_vars;assumption)|simp_all)
def d1 (a b:Cell):List (UInt8×UInt8):=if a.high=b.high then [] else [(0x41,b.high)]
def d2 (a b:Cell):List (UInt8×UInt8):=if a.color=b.color then [] else [(0x42,b.color)]
def d3 (a b:Cell):List (UInt8×UInt8):=if a.set=b.set then [] else [(0x43,b.set)]
def diffP (a b:Cell):List (UInt8×UInt8):=d1 a b++(d2 a b++d3 a b)
def lookC (c:Cell):List AV:=[.lit (.int .u8 65),byteA c.high, .lit (.int .u8 66),byteA c.color, .lit (.int .u8 67),byteA c.set]
set_option maxRecDepth 8000
set_option maxHeartbeats 1000000
theorem looks_calls (c:Cell) (σ:Store):ACalls Tryz.prog 83 [cellA c] σ fun v σ'=>v= .agg (lookC c)∧σ'=σ:=by
 rw[cellA_eq,lookC]
 refine aw st83 pl83 13 Tryz.func83 rfl ?_
 simp+contextual [ite_free]
 intro b hb b2 n1 n2 hb2
 exact Store.sub_upd (by simp[n1,hb2]) (Store.sub_upd hb (Store.sub_refl _))
theorem eqLits_look (c d:Cell):eqLits [.int, .int, .int, .int, .int, .int] (lookC c) (lookC d)=some (decide (c.high=d.high∧c.color=d.color∧c.set=d.set)):=by
 obtain ⟨a1,a2,a3,a4,a5,a6⟩:=c
 obtain ⟨b1,b2,b3,b4,b5,b6⟩:=d
 have h:∀x y:UInt8,((x.toNat:Int)==(y.toNat:Int))=decide (x=y):=fun x y=>by rw[byte_eq];rfl
 simp only[lookC,byteA_lit]
 simp[eqLits,h]
theorem eqLits_pair (n:Int) (x y:UInt8):eqLits [.int, .int] [.lit (.int .u8 n),byteA x] [.lit (.int .u8 n),byteA y]=some (decide (x=y)):=by
 have h:((x.toNat:Int)==(y.toNat:Int))=decide (x=y):=by rw[byte_eq];rfl
 simp only[byteA_lit]
 simp[eqLits,h]
def pTo (a b:Cell):Nat→List (UInt8×UInt8)
 |0=>[]
 |1=>d1 a b
 |2=>d1 a b++d2 a b
 |_=>diffP a b
def p2A (x:UInt8×UInt8):AV:= .agg [byteA x.1,byteA x.2]
theorem diff_calls (a b:Cell) (σ:Store):ACalls Tryz.prog 57 [cellA a,cellA b] σ fun v σ'=>v= .list false 2 ((diffP a b).map p2A)∧σ'=σ:=by
 have ha:=looks_calls a
 have hb:=looks_calls b
 rw[cellA_eq] at ha hb
 rw[cellA_eq,cellA_eq]
 refine aw st57 pl57 33 Tryz.func57 rfl ?_
 generalize hrest:Code.seq (Code.seq (Code.region 3 _ false) _) _=rest
 have hcont:∀(A':Slots) (p6 p7:Nat) (τ:Store),A' 5= .list true 2 []→A' 6=ptrA p6→A' 7=ptrA p7→τ p6=some (lookC a)→τ p7=some (lookC b)→Store.sub σ τ→
   awp Tryz.prog st57 pl57 33 rest (aret Tryz.prog [.tmp 4] fun v σ'=>v= .list false 2 ((diffP a b).map p2A)∧σ'=σ) A' τ:=by
  intro A' p6 p7 τ a5 a6 a7 hp6 hp7 hsub
  rw[←hrest]
  clear hrest ha hb
  have heq:=eqLits_look a b
  have hl6:∀c,(lookC c).length=6:=fun _=>rfl
  simp only[lookC] at hp6 hp7 heq
  by_cases he:a.high=b.high∧a.color=b.color∧a.set=b.set
  ·have hd:diffP a b=[]:=by simp[diffP,d1,d2,d3,he]
   rw[decide_eq_true he] at heq
   rw[hd]
   simp[-e_eqLits_2,a5,a6,a7,hp6,hp7,heq]
   exact hsub
  ·rw[decide_eq_false he] at heq
   simp[-e_eqLits_2,a5,a6,a7,hp6,hp7,heq]
   clear heq he
   have e65:=eqLits_pair 65 a.high b.high
   have e66:=eqLits_pair 66 a.color b.color
   have e67:=eqLits_pair 67 a.set b.set
   refine codeK.loop follows (st:=st57) (plans:=pl57) (X:=Nat) (fun i=>i≤3)
    (fun i=>[(5, .list true 2 ((pTo a b i).map p2A)),(6,ptrA p6),(7,ptrA p7),(17, .agg (lookC b)),(18, .lit (.int .i64 i))])
    (fun _=>τ) (fun i=>3-i) 0 (by kernel_rfl) (by simp) (by simp[a5,a6,a7,pTo,lookC]) (Store.sub_refl _) fun i hi=> ?_
   have hc:i=0∨i=1∨i=2∨i=3:=by omega
   rcases hc with rfl|rfl|rfl|rfl
   ·simp+contextual [-e_eqLits_2,lookC,hp6,hp7,ite_free]
    intro c hc
    have n1:¬p6=c:=by rintro rfl;rw[hp6] at hc;cases hc
    by_cases h1:a.high=b.high
    ·rw[decide_eq_true h1] at e65
     simp[-e_eqLits_2,n1,hp6,e65]
     exact ⟨1,by omega,by omega,⟨by rw[show pTo a b 1=pTo a b 0 by simp[pTo,diffP,d1,d2,d3,h1]];exact AV.le_refl _,AV.le_refl _⟩,sub_upd_self _ _ _ hc⟩
    ·rw[decide_eq_false h1] at e65
     simp[-e_eqLits_2,n1,hp6,e65]
     have hpn:pTo a b 1=pTo a b 0++[(0x41,b.high)]:=by simp[pTo,diffP,d1,d2,d3,h1]
     have hpl:(pTo a b 0).length≤2:=by simp[pTo,d1,d2];try (split<;>(try split)<;>simp)
     exact ⟨by omega,by omega,1,by omega,by omega,⟨by rw[hpn,List.map_append];exact AV.le_refl _,AV.le_refl _⟩,sub_upd_self _ _ _ hc⟩
   ·simp+contextual [-e_eqLits_2,lookC,hp6,hp7,ite_free]
    intro c hc
    have n1:¬p6=c:=by rintro rfl;rw[hp6] at hc;cases hc
    by_cases h1:a.color=b.color
    ·rw[decide_eq_true h1] at e66
     simp[-e_eqLits_2,n1,hp6,e66]
     exact ⟨2,by omega,by omega,⟨by rw[show pTo a b 2=pTo a b 1 by simp[pTo,diffP,d1,d2,d3,h1]];exact AV.le_refl _,AV.le_refl _⟩,sub_upd_self _ _ _ hc⟩
    ·rw[decide_eq_false h1] at e66
     simp[-e_eqLits_2,n1,hp6,e66]
     have hpn:pTo a b 2=pTo a b 1++[(0x42,b.color)]:=by simp[pTo,diffP,d1,d2,d3,h1]
     have hpl:(pTo a b 1).length≤2:=by simp[pTo,d1,d2];try (split<;>(try split)<;>simp)
     exact ⟨by omega,by omega,2,by omega,by omega,⟨by rw[hpn,List.map_append];exact AV.le_refl _,AV.le_refl _⟩,sub_upd_self _ _ _ hc⟩
   ·simp+contextual [-e_eqLits_2,lookC,hp6,hp7,ite_free]
    intro c hc
    have n1:¬p6=c:=by rintro rfl;rw[hp6] at hc;cases hc
    by_cases h1:a.set=b.set
    ·rw[decide_eq_true h1] at e67
     simp[-e_eqLits_2,n1,hp6,e67]
     exact ⟨3,by omega,by omega,⟨by rw[show pTo a b 3=pTo a b 2 by simp[pTo,diffP,d1,d2,d3,h1]];exact AV.le_refl _,AV.le_refl _⟩,sub_upd_self _ _ _ hc⟩
    ·rw[decide_eq_false h1] at e67
     simp[-e_eqLits_2,n1,hp6,e67]
     have hpn:pTo a b 3=pTo a b 2++[(0x43,b.set)]:=by simp[pTo,diffP,d1,d2,d3,h1]
     have hpl:(pTo a b 2).length≤2:=by simp[pTo,d1,d2];try (split<;>(try split)<;>simp)
     exact ⟨by omega,by omega,3,by omega,by omega,⟨by rw[hpn,List.map_append];exact AV.le_refl _,AV.le_refl _⟩,sub_upd_self _ _ _ hc⟩
   ·simp[pTo]
    exact hsub
 clear hrest
 simp+contextual [ite_free]
 intro b2 hb2 b3 n1 n2 hb3
 repeat' (first
  |with_reducible apply And.intro
  |(refine callK.of (ha _) ?_;rintro v σ' ⟨rfl,rfl⟩;simp+contextual [ite_free,lookC, *])
  |(refine callK.of (hb _) ?_;rintro v σ' ⟨rfl,rfl⟩;simp+contextual [ite_free,lookC, *])
  |(intro p;intros))
 all_goals
  refine hcont _ _ _ _ rfl rfl rfl (by simp[lookC, *]) (by simp[lookC, *]) ?_
  repeat (first|exact Store.sub_refl _|refine Store.sub_upd (by assumption) ?_)
end Go.Proofs.YtjnopnpkfhopbaaGreatDoor
