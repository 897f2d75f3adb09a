/-
 A piece is done.
-/
import Derived.Test.YtjnopnpkfhopbaaGreatDoorPart17
set_option linter.unusedSimpArgs false
set_option linter.unusedVariables false
set_option maxRecDepth 8000
set_option maxHeartbeats 8000000
namespace Go.Proofs.YtjnopnpkfhopbaaGreatDoor
open Go Go.AL Go.Sp
theorem pn_at {σ:Store} {z q r o:Nat} {p:Pen} (h1:¬o=z) (h2:¬o=q) (h3:¬o=r):pn σ z q r p o=σ o:=by simp[pn,putS,h1,h2,h3]
theorem span_eq (p:Pen) (o:Op):p.span o=if (p.s.n:Int)≤o.addr then (p,9)
 else ({p with s:=if o.kind=18 then rangeS p.s (spanL p.s.n p.n o.addr.toNat) else repeatS p.s (spanL p.s.n p.n o.addr.toNat) (lookW p.look o.code o.graph),n:=o.addr.toNat},0):=rfl
theorem pspan_calls {σ:Store} {z q r:Nat} {p:Pen} (h:Pn σ z q r p) (hl:p.n<p.s.n) (o:Op) (ha:0≤o.addr):ACalls Tryz.prog 115 [ptrA z,opA o] σ fun v σ'=>v= .lit (.int .i64 ((p.span o).2:Nat))∧σ'=pn σ z q r (p.span o).1:=by
 have hp:=h.pen
 have hto:=fun τ (hτ:Pn τ z q r p)=>to_calls hτ o.addr ha
 have hoc:opA o= .agg [.lit (.int .i64 o.kind), .lit (.int .i64 o.addr),byteA o.code, .lit (.bool o.graph),byteA o.fa, .list false 2 (pairsA o.pairs), .list false 1 (bytesA o.text)]:=rfl
 rw[hoc,span_eq]
 unfold Pen.to at hto
 by_cases hlt:(p.s.n:Int)≤o.addr
 ·simp only[if_pos hlt] at hto⊢
  rw[h.self]
  unfold penO at hp
  have hzb:=h.ne
  refine aw st115 pl115 43 Tryz.func115 rfl ?_
  simp+contextual [hp,hzb]
  intro b hb
  refine callK.of (hto _ (h.new hb _)) ?_
  rintro v σ' ⟨rfl,h2⟩
  rw[(h.new hb _).self] at h2
  subst h2
  simp
  exact Store.sub_upd hb (Store.sub_refl _)
 ·simp only[if_neg hlt] at hto⊢
  obtain ⟨t,ht⟩:∃t:Nat,o.addr=t:=⟨o.addr.toNat,by omega⟩
  rw[ht] at hto hlt⊢
  simp only[Int.toNat_natCast] at hto⊢
  have htn:t<p.s.n:=by omega
  have hPt:∀τ,Pn τ z q r p→Pn (pn τ z q r {p with n:=t}) z q r {p with n:=t} :=fun τ hτ=>hτ.to _ hτ.scr.good
  have hzb:=h.ne
  have hfr:=fun (b:Nat) (hb:σ b=none)=>h.fresh hb
  by_cases h18:o.kind=18
  ·have hrg:=fun τ (hτ:Prg τ q r p.s)=>range_calls hτ hl htn
   simp only[h18,if_true]
   unfold penO at hp
   refine aw st115 pl115 43 Tryz.func115 rfl ?_
   simp+contextual [hp,hzb]
   intro b hb
   have hb0:=hfr b hb
   generalize hX:[AV.lit (.int .i64 18),AV.lit (.int .i64 (t:Int)),byteA o.code,AV.lit (.bool o.graph),byteA o.fa,AV.list false 2 (pairsA o.pairs),AV.list false 1 (bytesA o.text)]=X at*
   have hT:=h.new hb X
   refine callK.of (hto _ hT) ?_
   rintro v σ2 ⟨rfl,h2⟩
   have hP2:Pn σ2 z q r {p with n:=t} :=h2▸hPt _ hT
   have hb2:σ2 b=some X:=by rw[h2,pn_at hb0.2.1 hb0.2.2.2.2.1 hb0.2.2.2.2.2];simp
   have hp2:=hP2.pen
   unfold penO at hp2
   have hfin:∀s',Store.sub (pn σ z q r {p with s:=s',n:=t}) (putS spO σ2 q r s'):=fun s'=>by
    rw[pn_scr hP2,h2,pn_pn _ _ h.scr.ne h.zq h.zr]
    exact pn_sub (Store.sub_upd hb (Store.sub_refl _)) _ _ _ _
   rw[←hX] at hb2
   simp[hb2,hp2]
   refine callK.of (hrg _ hP2.scr) ?_
   rintro v σ3 ⟨rfl,rfl⟩
   simp
   exact hfin _
  ·have hrg:=fun τ (hτ:Prg τ q r p.s)=>repeat_calls hτ hl htn (lookW p.look o.code o.graph)
   have hce:=fun τ (hτ:Pn τ z q r {p with n:=t})=>cell_calls hτ o.code o.graph
   have hk':¬(o.kind:Int)=18:=by omega
   simp only[h18,if_false]
   unfold penO at hp
   refine aw st115 pl115 43 Tryz.func115 rfl ?_
   simp+contextual [hp,hzb]
   intro b hb
   have hb0:=hfr b hb
   generalize hX:[AV.lit (.int .i64 (o.kind:Int)),AV.lit (.int .i64 (t:Int)),byteA o.code,AV.lit (.bool o.graph),byteA o.fa,AV.list false 2 (pairsA o.pairs),AV.list false 1 (bytesA o.text)]=X at*
   have hT:=h.new hb X
   refine callK.of (hto _ hT) ?_
   rintro v σ2 ⟨rfl,h2⟩
   have hP2:Pn σ2 z q r {p with n:=t} :=h2▸hPt _ hT
   have hb2:σ2 b=some X:=by rw[h2,pn_at hb0.2.1 hb0.2.2.2.2.1 hb0.2.2.2.2.2];simp
   have hp2:=hP2.pen
   unfold penO at hp2
   have hfin:∀s',Store.sub (pn σ z q r {p with s:=s',n:=t}) (putS spO σ2 q r s'):=fun s'=>by
    rw[pn_scr hP2,h2,pn_pn _ _ h.scr.ne h.zq h.zr]
    exact pn_sub (Store.sub_upd hb (Store.sub_refl _)) _ _ _ _
   rw[←hX] at hb2
   simp[hb2,hp2,hk']
   repeat' (with_reducible apply And.intro)
   all_goals
    refine callK.of (hce _ hP2) ?_
    rintro v σ3 ⟨rfl,rfl⟩
    simp[hp2,hb2]
    refine callK.of (hrg _ hP2.scr) ?_
    rintro v σ3 ⟨⟨n,rfl⟩,rfl⟩
    simp
    exact hfin _
theorem attrAt_put {s:Sp} (h:s.good) (k:Int) (b:UInt8) (i:Nat):attrAt (s.put k b).cells i=attrAt s.cells i:=by
 by_cases hc:(s.at k).attr=true
 ·unfold Sp.put;rw[if_pos hc]
 ·have hc':(s.at k).attr=false:=by simpa using hc
  obtain ⟨h1,_⟩:=put_cells h k b hc'
  rw[h1]
  have hlt:=wrap_lt s.n_pos k
  have hlt':wrap s.n k<s.cells.length:=by rw[h.len];exact hlt
  unfold attrAt
  rw[List.getElem?_set]
  split
  ·rename_i hi
   subst hi
   have e:s.cells[wrap s.n k]=s.at k:=by simp[Sp.at,hlt']
   simp[hlt',e,hc']
  ·rfl
def nullTo (s:Sp) (n j:Nat):Sp:=nullS s ((List.range j).map fun i=>n+i)
theorem nullTo_succ (s:Sp) (n j:Nat):nullTo s n (j+1)=(nullTo s n j).put ((n+j:Nat):Int) 0:=by
 unfold nullTo nullS
 rw[List.range_succ,List.map_append,List.foldl_append];rfl
theorem nullTo_same {s:Sp} (h:s.good) (n j:Nat):SameN s (nullTo s n j):=(SameN.refl h).nullS _
theorem nullTo_attr {s:Sp} (h:s.good) (n i:Nat):∀j,attrAt (nullTo s n j).cells i=attrAt s.cells i
 |0=>rfl
 |j+1=>by rw[nullTo_succ,attrAt_put (nullTo_same h n j).1];exact nullTo_attr h n i j
theorem nullsL_eq {s:Sp} {n j:Nat} (hj:j≤s.n-n) (hf:∀k,k<j→attrAt s.cells (n+k)=false) (hs:j=s.n-n∨attrAt s.cells (n+j)=true):nullsL s n=(List.range j).map fun i=>n+i:=by
 unfold nullsL
 have hl:((List.range (s.n-n)).map fun i=>n+i).length=s.n-n:=by simp
 have:=takeWhile_cut (p:=fun k=> !attrAt s.cells k) (L:=(List.range (s.n-n)).map fun i=>n+i) (k:=j) (by rw[hl];exact hj) (fun i x hi hx=>by
  have hin:i<s.n-n:=by omega
  simp[hin] at hx;subst hx;simp[hf i hi]) (fun x hx=>by
  rcases hs with hs|hs
  ·subst hs;simp at hx
  ·have hin:j<s.n-n:=by
    have:=(List.getElem?_eq_some_iff.1 hx).1;rw[hl] at this;exact this
   simp[hin] at hx;subst hx;simp[hs])
 rw[this,←List.map_take,List.take_range,Nat.min_eq_left hj]
theorem tab_calls {σ:Store} {z q r:Nat} {p:Pen} (h:Pn σ z q r p) (hl:p.n<p.s.n):ACalls Tryz.prog 118 [ptrA z] σ fun v σ'=>v= .tuple []∧σ'=pn σ z q r p.tab:=by
 have hp:=h.pen
 have hsz:=fun τ (hτ:Prg τ q r p.s)=>size_calls hτ
 have hcl:=fun τ=>scells_calls p.s τ
 have hzb:=h.ne
 have hnl:=p.s.n_le
 have hgood:=h.scr.good
 have hfin:∀(s':Sp),Store.sub σ σ→SameN p.s s'→(p.texts=true→s'=nullS p.s (nullsL p.s p.n))→(p.texts=false→s'=p.s)→p.tab= {p with s:=s',n:=tabN s' p.n} :=fun s' _ _ h1 h2=>by
  unfold Pen.tab
  cases ht:p.texts
  ·simp[h2 ht]
  ·simp[h1 ht]
 unfold penO at hp
 refine aw st118 pl118 59 Tryz.func118 rfl ?_
 simp+contextual [hp]
 refine callK.of (hsz _ h.scr) ?_
 rintro v σ' ⟨rfl,rfl⟩
 simp
 intro b hb
 have hb0:=h.fresh hb
 generalize hX:[AV.lit (.int .i64 (p.s.rows:Int)),AV.lit (.int .i64 (p.s.cols:Int))]=X at*
 rw[←hX] at hcl
 have hend:∀(s':Sp) (σ2:Store),SameN p.s s'→σ2=pn (σ'.upd b X) z q r {p with s:=s'} →p.tab= {p with s:=s',n:=tabN s' p.n} →
   Pn σ2 z q r {p with s:=s'} ∧(nextS s' p.n>p.n→Store.sub (pn σ' z q r p.tab) (σ2.upd z (penO q {p with s:=s',n:=(nextS s' p.n).toNat})))∧(¬nextS s' p.n>p.n→Store.sub (pn σ' z q r p.tab) (σ2.upd z (penO q {p with s:=s',n:=0}))):=fun s' σ2 hs' h2 ht=>by
  have hP2:Pn σ2 z q r {p with s:=s'} :=h2▸(h.new hb X).to _ hs'.1
  have hpen:∀n',σ2.upd z (penO q {p with s:=s',n:=n'})=pn (σ'.upd b X) z q r {p with s:=s',n:=n'} :=fun n'=>by
   rw[pn_pen hP2 {p with s:=s',n:=n'} rfl,h2,pn_pn _ _ h.scr.ne h.zq h.zr]
  refine ⟨hP2,fun hn=> ?_,fun hn=> ?_⟩
  ·rw[hpen,ht,tabN,if_pos hn]
   exact pn_sub (Store.sub_upd hb (Store.sub_refl _)) _ _ _ _
  ·rw[hpen,ht,tabN,if_neg hn]
   exact pn_sub (Store.sub_upd hb (Store.sub_refl _)) _ _ _ _
 cases ht:p.texts
 ·have hT:=h.new hb X
  have htab:=hfin p.s (Store.sub_refl _) (SameN.refl hgood) (by simp[ht]) (fun _=>rfl)
  obtain ⟨hP2,e1,e2⟩:=hend p.s (σ'.upd b X) (SameN.refl hgood) hT.self.symm htab
  have hnx:=fun τ (hτ:Prg τ q r p.s)=>fnext_calls hτ hl
  have hnlt:=nextS_lt p.s p.n
  have hpe:∀n',penO q {p with s:=p.s,n:=n'} =[ptrA q, .lit (.int .i64 n'),byteA p.look.char, .lit (.bool p.look.attr),byteA p.look.fa,byteA p.look.high,byteA p.look.color,byteA p.look.set, .lit (.bool p.texts)]:=fun _=>rfl
  rw[hpe] at e1 e2
  rw[ht] at e1 e2 hp
  generalize p.tab=pt at*
  simp[hp,hb0]
  refine callK.of (hnx _ hP2.scr) ?_
  rintro v σ3 ⟨rfl,rfl⟩
  by_cases hn:(p.n:Int)<nextS p.s p.n
  ·have hnn:(((nextS p.s p.n).toNat:Nat):Int)=nextS p.s p.n:=by omega
   rw[hnn] at e1
   simp[hp,hb0,hn]
   exact e1 hn
  ·simp[hp,hb0,hn]
   exact e2 hn
 ·simp[hp,hb0,ht]
  refine codeK.scope follows (st:=st118) (plans:=pl118) (by kernel_rfl) ?_
  simp[hp,hb0,ht]
  refine codeK.loop follows (st:=st118) (plans:=pl118) (X:=Nat) (fun j=>j≤p.s.n-p.n∧∀k,k<j→attrAt p.s.cells (p.n+k)=false)
   (fun j=>[(0,ptrA z),(2,ptrA b),(3, .lit (.int .i64 (p.n+j:Nat)))]) (fun j=>pn (σ'.upd b X) z q r {p with s:=nullTo p.s p.n j}) (fun j=>p.s.n-j) 0 (by kernel_rfl) (by simp) (by simp) (by
    have hz0:nullTo p.s p.n 0=p.s:=rfl
    rw[hz0,(h.new hb X).self];exact Store.sub_refl _) fun j hj=> ?_
  obtain ⟨hj,hk⟩:=hj
  have hsj:=nullTo_same hgood p.n j
  have hP2:Pn (pn (σ'.upd b X) z q r {p with s:=nullTo p.s p.n j}) z q r {p with s:=nullTo p.s p.n j} :=(h.new hb X).to _ hsj.1
  have hp2:=hP2.pen
  unfold penO at hp2
  have hb2:pn (σ'.upd b X) z q r {p with s:=nullTo p.s p.n j} b=some X:=by rw[pn_at hb0.2.1 hb0.2.2.2.2.1 hb0.2.2.2.2.2];simp
  have hb2:pn (σ'.upd b X) z q r {p with s:=nullTo p.s p.n j} b=some [AV.lit (.int .i64 (p.s.rows:Int)),AV.lit (.int .i64 (p.s.cols:Int))]:=hb2.trans (by rw[hX])
  have hpe:∀s' n',penO q {p with s:=s',n:=n'} =[ptrA q, .lit (.int .i64 n'),byteA p.look.char, .lit (.bool p.look.attr),byteA p.look.fa,byteA p.look.high,byteA p.look.color,byteA p.look.set, .lit (.bool p.texts)]:=fun _ _=>rfl
  have htab:(j=p.s.n-p.n∨attrAt p.s.cells (p.n+j)=true)→p.tab= {p with s:=nullTo p.s p.n j,n:=tabN (nullTo p.s p.n j) p.n} :=fun hs=>hfin _ (Store.sub_refl _) hsj (fun _=>by rw[nullsL_eq hj hk hs];rfl) (fun h=>by rw[ht] at h;cases h)
  by_cases hlt:p.n+j<p.s.n
  ·have hat:=at_calls hP2.scr ((p.n+j:Nat):Int)
   have hpu:=pput_calls hP2.scr ((p.n+j:Nat):Int) 0
   have hw:IntKind.i64.wrap (((p.n+j:Nat):Int)+1)=((p.n+(j+1):Nat):Int):=by rw[wrap_i64 (by omega) (by omega)];omega
   have hae:((nullTo p.s p.n j).at ((p.n+j:Nat):Int)).attr=attrAt p.s.cells (p.n+j):=by rw[attrAt_at (by rw[hsj.n];exact hlt),nullTo_attr hgood]
   simp only[cellA_eq,hae] at hat
   have hlt':((p.n+j:Nat):Int)<p.s.n:=by omega
   have hstep:=pn_scr hP2 ((nullTo p.s p.n j).put ((p.n+j:Nat):Int) 0)
   rw[pn_pn _ _ h.scr.ne h.zq h.zr,←nullTo_succ] at hstep
   rw[←nullTo_succ] at hpu
   have hnext:attrAt p.s.cells (p.n+j)=false→∀k,k<j+1→attrAt p.s.cells (p.n+k)=false:=fun h0 k hk'=>by
    by_cases e:k=j
    ·subst e;exact h0
    ·exact hk k (by omega)
   generalize hkk:p.n+j=kk at*
   by_cases ha:attrAt p.s.cells kk=true
   ·have hstop:j=p.s.n-p.n∨attrAt p.s.cells kk=true:= .inr ha
    rw[ha] at hat
    simp[hb2]
    refine callK.of (hcl _) ?_
    rintro v σ3 ⟨rfl,rfl⟩
    simp[hp2,hlt']
    refine callK.of hat ?_
    rintro v σ3 ⟨rfl,rfl⟩
    simp[hp2]
    obtain ⟨hP3,e1,e2⟩:=hend (nullTo p.s p.n j) _ hsj rfl (htab hstop)
    have hnx:=fnext_calls hP3.scr (n:=p.n) (by show p.n<(nullTo p.s p.n j).n;rw[hsj.n];exact hl)
    have hnlt:=nextS_lt (nullTo p.s p.n j) p.n
    rw[hpe] at e1 e2
    generalize p.tab=pt at*
    generalize nullTo p.s p.n j=sj at*
    refine callK.of hnx ?_
    rintro v σ3 ⟨rfl,rfl⟩
    by_cases hn:(p.n:Int)<nextS sj p.n
    ·have hnn:(((nextS sj p.n).toNat:Nat):Int)=nextS sj p.n:=by omega
     rw[hnn] at e1
     simp[hp2,hn]
     exact e1 hn
    ·simp[hp2,hn]
     exact e2 hn
   ·have ha':attrAt p.s.cells kk=false:=by simpa using ha
    rw[ha'] at hat
    simp[hb2]
    refine callK.of (hcl _) ?_
    rintro v σ3 ⟨rfl,rfl⟩
    simp[hp2,hlt']
    refine callK.of hat ?_
    rintro v σ3 ⟨rfl,rfl⟩
    simp[hp2]
    refine callK.of hpu ?_
    rintro v σ3 ⟨rfl,rfl⟩
    simp
    exact ⟨j+1,⟨by omega,hnext ha'⟩,by omega,by rw[hw];exact AV.le_refl _,by rw[hstep];exact Store.sub_refl _⟩
  ·have hstop:j=p.s.n-p.n∨attrAt p.s.cells (p.n+j)=true:= .inl (by omega)
   have hlt':¬((p.n+j:Nat):Int)<p.s.n:=by omega
   generalize hkk:p.n+j=kk at*
   simp[hb2]
   refine callK.of (hcl _) ?_
   rintro v σ3 ⟨rfl,rfl⟩
   simp[hp2,hlt']
   obtain ⟨hP3,e1,e2⟩:=hend (nullTo p.s p.n j) _ hsj rfl (htab hstop)
   have hnx:=fnext_calls hP3.scr (n:=p.n) (by show p.n<(nullTo p.s p.n j).n;rw[hsj.n];exact hl)
   have hnlt:=nextS_lt (nullTo p.s p.n j) p.n
   rw[hpe] at e1 e2
   generalize p.tab=pt at*
   generalize nullTo p.s p.n j=sj at*
   refine callK.of hnx ?_
   rintro v σ3 ⟨rfl,rfl⟩
   by_cases hn:(p.n:Int)<nextS sj p.n
   ·have hnn:(((nextS sj p.n).toNat:Nat):Int)=nextS sj p.n:=by omega
    rw[hnn] at e1
    simp[hp2,hn]
    exact e1 hn
   ·simp[hp2,hn]
    exact e2 hn
end Go.Proofs.YtjnopnpkfhopbaaGreatDoor
