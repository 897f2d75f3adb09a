/-
 The screens of acts, laid by the other chapter.
-/
import Derived.Test.YtjnopnpkfhopbaaGreatDoorPart29
set_option linter.unusedSimpArgs false
set_option linter.unusedVariables false
set_option maxRecDepth 8000
set_option maxHeartbeats 8000000
namespace Go.Proofs.YtjnopnpkfhopbaaGreatDoor
open Go Go.AL Go.Sp
theorem lay25_calls (m:UInt8) (l:List Sp.Act) (hl:l.length≤9223372036854775807) (ht:∀a∈l,a.text.length≤9223372036854775807) (σ:Store):ACalls Tryz.prog 5 [byteA m, .list false 11 (actsA l)] σ (LayR σ (Sp.lays m l)):=by
 have hm:2≤2+m.toNat % 4∧2+m.toNat % 4≤5:=by omega
 have hmw:IntKind.i64.wrap (2+IntKind.i64.wrap ((m.toNat:Int).tmod 4))=((2+m.toNat % 4:Nat):Int):=by
  have e:(m.toNat:Int).tmod 4=((m.toNat % 4:Nat):Int):=rfl
  rw[e,wrap_i64 (n:=((m.toNat % 4:Nat):Int)) (by omega) (by omega),wrap_i64 (by omega) (by omega)];simp
 have hstep:=lays_step m l
 have hS:Sp.lays m l=((l.take 30).take l.length).foldl Sp.act (Sp.new (2+m.toNat % 4)):=by
  rw[List.take_of_length_le (show (l.take 30).length≤l.length by simp;omega)];rfl
 have hn1:=new_calls hm
 have hn2:=rnew_calls hm
 have hgood:=fun k=>Sp.foldl_good ((l.take 30).take k) (Sp.new_good hm)
 have hmod:(Sp.lays m l).model=2+m.toNat % 4:=(foldl_model _ _).trans rfl
 have hng:=Sp.new_good hm
 refine aw st5 pl5 70 Tryz.func5 rfl ?_
 generalize hN:Sp.new (2+m.toNat % 4)=N0 at*
 simp[byteA,hmw]
 refine callK.of (hn1 _) ?_
 rintro v σ' ⟨q,p,rfl,hq,hp,hqp,rfl⟩
 simp
 refine callK.of (hn2 _) ?_
 rintro v σ' ⟨x,y0,rfl,hx,hy,hxy,rfl⟩
 simp
 have hx':σ x=none∧x≠q∧x≠p:=by
  simp only[putS,supd_apply,ite_none] at hx;exact ⟨hx.2.2,hx.2.1,hx.1⟩
 have hy':σ y0=none∧y0≠q∧y0≠p:=by
  simp only[putS,supd_apply,ite_none] at hy;exact ⟨hy.2.2,hy.2.1,hy.1⟩
 refine codeK.cut (fun e A σ'=>e= .exit 0∧∃y,Four σ q p x y∧LeL A [(6, .lit (.int .i64 (2+m.toNat % 4:Nat))),(7,ptrA q),(9,ptrA x)]∧Store.sub (both σ q p x y N0 (Sp.lays m l)) σ') ?_ ?_
 ·refine codeK.loop follows (st:=st5) (plans:=pl5) (X:=Nat×Nat) (fun k=>k.1≤l.length∧Four σ q p x k.2)
   (fun k=>[(6, .lit (.int .i64 (2+m.toNat % 4:Nat))),(7,ptrA q),(9,ptrA x),(25, .list false 11 (actsA l)),(26, .lit (.int .i64 l.length)),(27, .lit (.int .i64 k.1))])
   (fun k=>both σ q p x k.2 N0 (((l.take 30).take k.1).foldl Sp.act N0)) (fun k=>l.length-k.1) (0,y0) (by kernel_rfl) ⟨by simp,⟨hq,hp,hx'.1,hy'.1,hqp,Ne.symm hx'.2.1,Ne.symm hy'.2.1,Ne.symm hx'.2.2,Ne.symm hy'.2.2,hxy⟩⟩ (by simp) ?_ fun k hk=> ?_
  ·simp only[List.take_zero,List.foldl_nil]
   have h1:=hx'.2;have h2:=hy'.2
   simp only[both,putS]
   (intro q;simp only[Store.upd,Store.del];(repeat' split)<;>first|exact Or.inr rfl|exact Or.inl rfl|(exfalso;omega)|(left;subst_vars;assumption)|simp_all)
  ·obtain ⟨i,y⟩:=k
   obtain ⟨hi,h4⟩:=hk
   dsimp only at hi h4⊢
   by_cases hlt:i<l.length
   ·have hw:IntKind.i64.wrap ((i:Int)+1)=((i+1:Nat):Int):=wrap_i64 (by omega) (by omega)
    have ha:=actsA_at l i hlt
    have hst:=hstep i hlt
    have htx:=ht l[i] (List.getElem_mem hlt)
    have hg:=hgood i
    have hg2:=hgood (i+1)
    by_cases h30:i<30
    ·have h30i:(i:Int)<30:=by omega
     rw[hst h30] at hg2
     have hst2:=hst h30
     generalize ((l.take 30).take i).foldl Sp.act N0=t at*
     generalize l[i]=a at*
     have hdo:=fun τ (hτ:Ref τ x y t)=>rdo_calls hτ a htx
     have hac:actA a= .agg [byteA a.what, .lit (.int .i64 a.n), .lit (.bool a.on),byteA a.code,byteA a.c.char, .lit (.bool a.c.attr),byteA a.c.fa,byteA a.c.high,byteA a.c.color,byteA a.c.set, .list false 1 (bytesA a.text)]:=rfl
     rw[hac] at hdo ha
     have hR:=both_ref (s:=N0) h4 hg
     simp+contextual [hlt,h30i,ha]
     intro b hb
     obtain ⟨m1,m2,m3,m4⟩:=hR.fresh hb
     refine callK.of (hdo _ (hR.new hb _)) ?_
     rintro v σ' ⟨rfl,y',hy2,rfl⟩
     have hb2:σ b=none∧¬b=q∧¬b=p:=by
      simp only[both,putS,supd_apply,ite_none] at hb;exact ⟨hb.2.2.2.2,hb.2.1,hb.1⟩
     have hy3:¬y'=b∧¬y'=x∧¬y'=p∧¬y'=q∧σ y'=none:=by
      rcases hy2 with rfl|hy2
      ·exact ⟨m2,Ne.symm h4.xy,Ne.symm h4.py,Ne.symm h4.qy,h4.y0⟩
      ·simp only[both,putS,supd_apply,ite_none] at hy2
       exact ⟨hy2.1,hy2.2.2.2.2.1,hy2.2.1,hy2.2.2.1,hy2.2.2.2.2.2⟩
     obtain ⟨y1,y2,y3,y4,y5⟩:=hy3
     obtain ⟨b1,b2,b3⟩:=hb2
     simp
     refine ⟨i+1,y',⟨by omega,⟨h4.q0,h4.p0,h4.x0,y5,h4.qp,h4.qx,Ne.symm y4,h4.px,Ne.symm y3,Ne.symm y2⟩⟩,by omega,by rw[hw];exact AV.le_refl _, ?_⟩
     rw[hst2]
     obtain ⟨_,_,_,_,f1,f2,f3,f4,f5,f6⟩:=h4
     simp only[both,putS]
     (intro q;simp only[Store.upd,Store.del];(repeat' split)<;>first|exact Or.inr rfl|exact Or.inl rfl|(exfalso;omega)|(left;subst_vars;assumption)|simp_all)
    ·have h30i:¬(i:Int)<30:=by omega
     have hl30:(l.take 30).length≤30:=by simp;omega
     have hsame:(l.take 30).take (i+1)=(l.take 30).take i:=
      (List.take_of_length_le (show (l.take 30).length≤i+1 by omega)).trans (List.take_of_length_le (show (l.take 30).length≤i by omega)).symm
     have hac:∀a,actA a= .agg [byteA a.what, .lit (.int .i64 a.n), .lit (.bool a.on),byteA a.code,byteA a.c.char, .lit (.bool a.c.attr),byteA a.c.fa,byteA a.c.high,byteA a.c.color,byteA a.c.set, .list false 1 (bytesA a.text)]:=fun _=>rfl
     rw[hac] at ha
     simp+contextual [hlt,h30i,ha]
     intro b hb
     refine ⟨i+1,y,⟨by omega,h4⟩,by omega,by rw[hw];exact AV.le_refl _, ?_⟩
     rw[hsame]
     exact sub_upd_self _ _ _ hb
   ·obtain rfl:i=l.length:=by omega
    rw[←hS]
    simp
    exact ⟨y,h4,Store.sub_refl _⟩
 ·rintro e A' σ2 ⟨rfl,y,h4,hA,hσ⟩
  refine View.leL hA (View.sub hσ (View.here ?_))
  clear hA hσ hstep
  have hg:=hgood l.length
  rw[←hS] at hg
  clear hS hgood
  generalize hSS:Sp.lays m l=S at*
  have hRo:=fun p' (h4:Four σ q p' x y) t=>(both_ref (s:=t) h4 hg).obj
  have hRr:=fun p' (h4:Four σ q p' x y) t=>(both_ref (s:=t) h4 hg).row
  unfold rfO at hRo
  have hcl:=fun τ (hτ:Prg τ q p N0)=>clear_calls (σ:=τ) true hτ.good.model hτ.obj
  have hN0:N0=Sp.clear ⟨2+m.toNat % 4,false,[],0⟩ false:=hN.symm
  have hN1:N0.clear true=Sp.clear ⟨2+m.toNat % 4,false,[],0⟩ true:=by rw[hN0];rfl
  have hz:=upTo_zero S
  rw[hmod] at hz
  have hen:∀(j:Nat) (hj:j<S.cells.length),((cellsO S.cells).drop (j*6)).take 6=cellC S.cells[j]:=fun j hj=>cellsO_get hj
  have hcl6:=cellsO_length S.cells
  have hSl:=hg.len
  have hSn:=S.n_le
  have hmain:∀p',Four σ q p' x y→True:=fun _ _=>trivial
  by_cases halt:S.alt=true
  ·rw[halt] at hz
   rw[←hN1] at hz
   simp[hRo p h4,halt]
   refine callK.of (hcl _ (both_prg h4 hng)) ?_
   rintro v σ' ⟨rfl,p',hp',rfl⟩
   have h4':Four σ q p' x y:=by
    simp only[both,putS,supd_apply,ite_none] at hp'
    obtain ⟨f1,f2,f3,f4,f5,f6,f7,f8,f9,f10⟩:=h4
    exact ⟨f1,hp'.2.2.2.2,f3,f4,Ne.symm hp'.2.1,f6,f7,hp'.2.2.2.1,hp'.2.2.1,f10⟩
   rw[←hz]
   have hsub:Store.sub (both σ q p' x y (upTo S 0) S) (putS spO (both σ q p x y N0 S) q p' (upTo S 0)):=by
    have h10:=h4'
    obtain ⟨f1,f2,f3,f4,f5,f6,f7,f8,f9,f10⟩:=h4
    obtain ⟨g1,g2,g3,g4,g5,g6,g7,g8,g9,g10⟩:=h4'
    simp only[both,putS]
    (intro q;simp only[Store.upd,Store.del];(repeat' split)<;>first|exact Or.inr rfl|exact Or.inl rfl|(exfalso;omega)|(left;subst_vars;assumption)|simp_all)
   have e1:putS spO (both σ q p x y N0 S) q p' (upTo S 0) x=some (rfO S y):=by
    obtain ⟨f1,f2,f3,f4,f5,f6,f7,f8,f9,f10⟩:=h4
    obtain ⟨g1,g2,g3,g4,g5,g6,g7,g8,g9,g10⟩:=h4'
    simp[both,putS,Ne.symm f6,Ne.symm f8,Ne.symm g8,f10]
   unfold rfO at e1
   simp[e1,rowC]
   clear e1
   refine codeK.loop follows (st:=st5) (plans:=pl5) (X:=Nat) (fun j=>j≤S.n)
    (fun j=>[(7,ptrA q),(9,ptrA x),(47,rowC y S.n),(48, .lit (.int .i64 S.n)),(49, .lit (.int .i64 j))])
    (fun j=>both σ q p' x y (upTo S j) S) (fun j=>S.n-j) 0 (by kernel_rfl) (by simp) (by simp[rowC]) hsub fun j hj=> ?_
   by_cases hlt:j<S.n
   ·have hw:IntKind.i64.wrap ((j:Int)+1)=((j+1:Nat):Int):=wrap_i64 (by omega) (by omega)
    have hjc:j<S.cells.length:=by omega
    have hnx:=upTo_next hg hlt hjc
    have hsm:=upTo_same hg hlt hjc
    have hgj:=hen j hjc
    have hP:=both_prg (t:=S) h4' (upTo_good hg hj)
    have hst:=fun τ (hτ:Prg τ q p' (upTo S j))=>set_calls hτ (j:Int) S.cells[j]
    rw[←hnx] at hst
    have hz0:=eqLits_zero S.cells[j]
    have hcx:cellC S.cells[j]=[byteA S.cells[j].char, .lit (.bool S.cells[j].attr),byteA S.cells[j].fa,byteA S.cells[j].high,byteA S.cells[j].color,byteA S.cells[j].set]:=rfl
    rw[hcx] at hgj
    rw[cellA_eq] at hst
    have hrow:=hRr p' h4' (upTo S j)
    generalize S.cells[j]=c at*
    have hle:j*6+6≤(cellsO S.cells).length:=by omega
    by_cases hc:c= .zero
    ·have hsm:=hsm hc
     have hz1:=hz0.trans (congrArg some (decide_eq_true hc))
     clear hc
     simp+contextual [-e_eqLits_2,rowC,hlt,hrow,hle,hgj,hz1]
     intro b hb
     refine ⟨j+1,by omega,by omega,by rw[hw];exact AV.le_refl _, ?_⟩
     rw[hsm]
     exact sub_upd_self _ _ _ hb
    ·have hz1:=hz0.trans (congrArg some (decide_eq_false hc))
     simp+contextual [-e_eqLits_2,rowC,hlt,hrow,hle,hgj,hz1]
     intro b hb
     refine callK.of (hst _ (hP.new hb _)) ?_
     rintro v σ' ⟨rfl,rfl⟩
     obtain ⟨m1,m2,m3,m4⟩:=hP.fresh hb
     simp
     refine ⟨j+1,by omega,by omega,by rw[hw];exact AV.le_refl _, ?_⟩
     simp only[both,putS] at hb⊢
     simp only[supd_apply,ite_none] at hb
     obtain ⟨b1,b2,b3,b4,b5⟩:=hb
     clear hrow hst hP hnx hsm hgj hcx hz0
     (intro q;simp only[Store.upd,Store.del];(repeat' split)<;>first|exact Or.inr rfl|exact Or.inl rfl|(exfalso;omega)|(left;subst_vars;assumption)|simp_all)
   ·obtain rfl:j=S.n:=by omega
    have hP:=both_prg (t:=S) h4' (upTo_good hg (Nat.le_refl _))
    have hpl:=fun τ (hτ:Prg τ q p' (upTo S S.n))=>place_calls hτ (S.cursor:Int)
    rw[upTo_all hg] at hpl
    simp[hRo p' h4' (upTo S S.n)]
    refine callK.of (hpl _ hP) ?_
    rintro v σ' ⟨rfl,rfl⟩
    simp
    refine ⟨_,AV.le_refl _,_, ?_,q,p',x,y,rfl,h4',rfl⟩
    simp only[both,putS]
    obtain ⟨g1,g2,g3,g4,g5,g6,g7,g8,g9,g10⟩:=h4'
    (intro q;simp only[Store.upd,Store.del];(repeat' split)<;>first|exact Or.inr rfl|exact Or.inl rfl|(exfalso;omega)|(left;subst_vars;assumption)|simp_all)
  ·have halt':S.alt=false:=by simpa using halt
   rw[halt'] at hz
   rw[←hN0] at hz
   rw[←hz]
   have h4':=h4
   have hsub:=Store.sub_refl (both σ q p x y (upTo S 0) S)
   obtain ⟨p',hpp⟩:∃p',p'=p:=⟨_,rfl⟩
   have e1:=hRo p h4 (upTo S 0)
   rw[halt'] at e1
   simp[e1]
   rw[←hpp] at h4' hsub e1⊢
   simp[rowC]
   clear e1
   refine codeK.loop follows (st:=st5) (plans:=pl5) (X:=Nat) (fun j=>j≤S.n)
    (fun j=>[(7,ptrA q),(9,ptrA x),(47,rowC y S.n),(48, .lit (.int .i64 S.n)),(49, .lit (.int .i64 j))])
    (fun j=>both σ q p' x y (upTo S j) S) (fun j=>S.n-j) 0 (by kernel_rfl) (by simp) (by simp[rowC]) hsub fun j hj=> ?_
   by_cases hlt:j<S.n
   ·have hw:IntKind.i64.wrap ((j:Int)+1)=((j+1:Nat):Int):=wrap_i64 (by omega) (by omega)
    have hjc:j<S.cells.length:=by omega
    have hnx:=upTo_next hg hlt hjc
    have hsm:=upTo_same hg hlt hjc
    have hgj:=hen j hjc
    have hP:=both_prg (t:=S) h4' (upTo_good hg hj)
    have hst:=fun τ (hτ:Prg τ q p' (upTo S j))=>set_calls hτ (j:Int) S.cells[j]
    rw[←hnx] at hst
    have hz0:=eqLits_zero S.cells[j]
    have hcx:cellC S.cells[j]=[byteA S.cells[j].char, .lit (.bool S.cells[j].attr),byteA S.cells[j].fa,byteA S.cells[j].high,byteA S.cells[j].color,byteA S.cells[j].set]:=rfl
    rw[hcx] at hgj
    rw[cellA_eq] at hst
    have hrow:=hRr p' h4' (upTo S j)
    generalize S.cells[j]=c at*
    have hle:j*6+6≤(cellsO S.cells).length:=by omega
    by_cases hc:c= .zero
    ·have hsm:=hsm hc
     have hz1:=hz0.trans (congrArg some (decide_eq_true hc))
     clear hc
     simp+contextual [-e_eqLits_2,rowC,hlt,hrow,hle,hgj,hz1]
     intro b hb
     refine ⟨j+1,by omega,by omega,by rw[hw];exact AV.le_refl _, ?_⟩
     rw[hsm]
     exact sub_upd_self _ _ _ hb
    ·have hz1:=hz0.trans (congrArg some (decide_eq_false hc))
     simp+contextual [-e_eqLits_2,rowC,hlt,hrow,hle,hgj,hz1]
     intro b hb
     refine callK.of (hst _ (hP.new hb _)) ?_
     rintro v σ' ⟨rfl,rfl⟩
     obtain ⟨m1,m2,m3,m4⟩:=hP.fresh hb
     simp
     refine ⟨j+1,by omega,by omega,by rw[hw];exact AV.le_refl _, ?_⟩
     simp only[both,putS] at hb⊢
     simp only[supd_apply,ite_none] at hb
     obtain ⟨b1,b2,b3,b4,b5⟩:=hb
     clear hrow hst hP hnx hsm hgj hcx hz0
     (intro q;simp only[Store.upd,Store.del];(repeat' split)<;>first|exact Or.inr rfl|exact Or.inl rfl|(exfalso;omega)|(left;subst_vars;assumption)|simp_all)
   ·obtain rfl:j=S.n:=by omega
    have hP:=both_prg (t:=S) h4' (upTo_good hg (Nat.le_refl _))
    have hpl:=fun τ (hτ:Prg τ q p' (upTo S S.n))=>place_calls hτ (S.cursor:Int)
    rw[upTo_all hg] at hpl
    simp[hRo p' h4' (upTo S S.n)]
    refine callK.of (hpl _ hP) ?_
    rintro v σ' ⟨rfl,rfl⟩
    simp
    refine ⟨_,AV.le_refl _,_, ?_,q,p',x,y,rfl,h4',rfl⟩
    simp only[both,putS]
    obtain ⟨g1,g2,g3,g4,g5,g6,g7,g8,g9,g10⟩:=h4'
    (intro q;simp only[Store.upd,Store.del];(repeat' split)<;>first|exact Or.inr rfl|exact Or.inl rfl|(exfalso;omega)|(left;subst_vars;assumption)|simp_all)
theorem prg_other2 {f:Sp→Nat→List AV} {σ:Store} {q r q1 r1:Nat} {s t:Sp} (h:Scr f σ q r s) (h1:¬q=q1) (h2:¬q=r1) (h3:¬r=q1) (h4:¬r=r1):Scr f (putS spO σ q1 r1 t) q r s:=
 ⟨(putS_at h1 h2).trans h.obj,(putS_at h3 h4).trans h.row,h.ne,h.good⟩
theorem both_sub2 {σ:Store} {q p x y:Nat} {s t:Sp} (h:Four σ q p x y):Store.sub σ (both σ q p x y s t):=by
 refine Store.sub2 (fun o=> ?_) (fun i=>by simp[both,putS])
 by_cases h1:o=q
 ·left;rw[h1];exact h.q0
 by_cases h2:o=p
 ·left;rw[h2];exact h.p0
 by_cases h3:o=x
 ·left;rw[h3];exact h.x0
 by_cases h4:o=y
 ·left;rw[h4];exact h.y0
 right;simp[both,putS,h1,h2,h3,h4]
theorem againS_good {s t:Sp} (h:s.good) (ht:2≤t.model∧t.model≤5) (hm:t.model=s.model) (mode:Nat):(againS s t mode).good:=by
 have hn:(againS s t mode).n=s.n:=by unfold Sp.n Sp.rows Sp.cols;rw[show (againS s t mode).model=s.model from hm];rfl
 refine ⟨ht, ?_, ?_,fun c hc=> ?_⟩
 ·rw[hn];show (s.cells.map (seen mode)).length=_;rw[List.length_map];exact h.len
 ·rw[hn];exact h.cursor
 ·obtain ⟨d,hd,rfl⟩:=List.mem_map.1 hc
  exact fit_seen (h.fit d hd)
theorem eqLeaf_byte (a:UInt8):eqLeaf .int (byteA a) (byteA a)=some true:=by
 rw[byteA_lit];simp[eqLeaf]
theorem againS_at {s t:Sp} (h:s.good) (ht:2≤t.model∧t.model≤5) (hm:t.model=s.model) (mode i:Nat) (hi:i<s.cells.length):(againS s t mode).at (i:Int)=seen mode s.cells[i]:=by
 have hg:=againS_good h ht hm mode
 have hl:(againS s t mode).cells.length=s.cells.length:=by show (s.cells.map (seen mode)).length=_;simp
 rw[at_of hg (by rw[←hg.len,hl];exact hi)]
 show ((s.cells.map (seen mode))[i]?).getD .zero=_
 simp[hi]
theorem atsB_pos (mode:Nat) (last c:Cell):0<(atsB (pcA mode last c)).length:=by
 by_cases ha:c.attr=true
 ·rw[ats_attr ha];unfold attrB;split<;>simp
 ·rw[ats_char (by simpa using ha)]
  split
  ·unfold charG;simp
  ·unfold charB;simp
theorem bufB_pos {s:Sp} (h:s.good) (mode:Nat) (aid:UInt8):3<(bufB s mode aid).length:=by
 have hl:=h.len
 have hn:=s.n_pos
 rw[bufB_eq]
 cases hc:s.cells with
 |nil=>rw[hc] at hl;simp at hl;omega
 |cons c l=>
  have:=atsB_pos mode .zero c
  have e:bodyB s mode=atsB (pcA mode .zero c)++atsB (cellsAt mode (lastC mode .zero c) l):=by
   unfold bodyB;rw[hc];simp[cellsAt,atsB]
  rw[e]
  simp only[List.length_cons,List.length_append]
  omega
@[simp] def st3x:List Nat:=[5000025,4000126]
theorem entryReplays_law (m:UInt8) (l lo:List Sp.Act) (aid mo:UInt8) (hl:l.length≤maxLen) (ht:∀a∈l,a.text.length≤maxLen) (hlo:lo.length≤maxLen) (hto:∀a∈lo,a.text.length≤maxLen) (σ:Store):
  ACalls Tryz.prog 3 [byteA m, .list false 11 (actsA l), .list false 11 (actsA lo),byteA aid,byteA mo] σ fun v _=>v= .lit (.bool true):=by
 have hlay:=fun τ=>lay25_calls m l (Nat.le_trans hl (by decide)) (fun a ha=>Nat.le_trans (ht a ha) (by decide)) τ
 have hlay2:=fun τ=>lay25_calls m lo (Nat.le_trans hlo (by decide)) (fun a ha=>Nat.le_trans (hto a ha) (by decide)) τ
 have hgood:=lays_good m l
 have hgood2:=lays_good m lo
 have hmm:(Sp.lays m lo).model=(Sp.lays m l).model:=(foldl_model _ _).trans (foldl_model _ _).symm
 have hmo:IntKind.i64.wrap ((mo.toNat:Int).tmod 3)=((mo.toNat % 3:Nat):Int):=by
  have e:(mo.toNat:Int).tmod 3=((mo.toNat % 3:Nat):Int):=rfl
  rw[e,wrap_i64 (by omega) (by omega)]
 have hk3:mo.toNat % 3<3:=Nat.mod_lt _ (by omega)
 refine aw st3x pl3 212 Tryz.func3 rfl ?_
 simp
 refine callK.eq (awake_calls _) ?_
 simp
 refine callK.of (hlay _) ?_
 rintro v σ1 ⟨q,p,x,y,rfl,h4,rfl⟩
 have hR:=both_ref (s:=Sp.lays m l) h4 hgood
 have hP:=both_prg (t:=Sp.lays m l) h4 hgood
 generalize Sp.lays m l=s at*
 generalize Sp.lays m lo=t at*
 generalize both σ q p x y s s=τ at*
 clear h4 hlay
 by_cases hlk:looksS s
 case neg=>
  have hb:=buffer_some hP aid (mo.toNat % 3) hk3
  have hl2:=looks2_calls hR
  rw[decide_eq_false hlk] at hl2
  simp[byteA,hmo]
  refine callK.of hb ?_
  rintro v σ1 ⟨⟨b,rfl⟩,rfl⟩
  simp
  refine callK.eq hl2 ?_
  simp
  exact ⟨_,Store.sub_refl _⟩
 have hb:=buffer_calls hP aid (mo.toNat % 3) hk3 hlk
 have hl2:=looks2_calls hR
 rw[decide_eq_true hlk] at hl2
 generalize mo.toNat % 3=k at*
 have hin:=bufIn hgood hlk k aid
 have hc4:s.cursor<4096:=by have:=hgood.cursor;have:=s.n_le;omega
 have heb:=fun τ=>ebuffer_calls false hin τ
 have her:=fun τ=>ereplay_calls false s.alt hin hc4 τ
 have hrr:=fun τ=>rreplay_calls false s.alt hin (kinds_fine hlk k) hc4 (bufB_pos hgood k aid) τ
 rw[read_again hgood hlk] at heb
 have hd3:(bufB s k aid).drop 3=bodyB s k:=rfl
 rw[hd3] at her hrr
 obtain ⟨x0,hcmd,hran⟩:=ran_again hgood hgood2.model hmm hlk k
 have hag:=againS_good hgood hgood2.model hmm k
 have hrl:(replB s.alt s.cursor (bodyB s k)).length≤1000000000:=by
  have:=hin.long
  rw[bufB_eq] at this
  simp only[List.length_cons] at this
  show ((if s.alt=true then 0x7e else 0xf5)::0x40::(bodyB s k++tailB s.cursor)).length≤_
  have e:(tailB s.cursor).length=4:=rfl
  simp only[List.length_cons,List.length_append,e];omega
 have hrun:=fun {σ:Store} {q r:Nat} (h:Prg σ q r t) (o:Bool)=>run_calls h o (replB s.alt s.cursor (bodyB s k)) hrl
 have hsame:=fun (o o':Bool) τ=>same_calls o o' (replB s.alt s.cursor (bodyB s k)) (replB s.alt s.cursor (bodyB s k)) τ
 rw[hran] at hrun
 simp only[beq_self_eq_true] at hsame
 generalize replB s.alt s.cursor (bodyB s k)=RB at*
 generalize bufB s k aid=BB at*
 have hro:=hR.obj
 unfold rfO at hro
 simp[byteA,hmo]
 refine callK.eq hb ?_
 simp
 refine callK.eq hl2 ?_
 simp
 refine callK.eq (heb _) ?_
 simp[hro]
 refine callK.eq (her _) ?_
 simp[hro]
 refine callK.eq (hrr _) ?_
 simp
 have hlay3:=hlay2 τ
 unfold byteA at hlay3
 refine callK.of hlay3 ?_
 rintro v σ1 ⟨q2,p2,x2,y2,rfl,h4,rfl⟩
 have hP2:=both_prg (t:=t) h4 hgood2
 have hs2:=both_sub2 (s:=t) (t:=t) h4
 have hR2:=prg_mono hR hs2
 have xq:¬x=q2:=by rintro rfl;have:=h4.q0;rw[hR.obj] at this;cases this
 have yq:¬y=q2:=by rintro rfl;have:=h4.q0;rw[hR.row] at this;cases this
 have xp:¬x=p2:=by rintro rfl;have:=h4.p0;rw[hR.obj] at this;cases this
 have yp:¬y=p2:=by rintro rfl;have:=h4.p0;rw[hR.row] at this;cases this
 generalize both τ q2 p2 x2 y2 t t=τ2 at*
 have hrn:=hrun hP2 false
 clear hs2 h4 hP hb hl2 heb her hrr hR hro hlay2 hrun
 simp
 refine callK.of hrn ?_
 rintro v σ1 ⟨rfl,r',hr',rfl⟩
 have rq:¬q2=r':=by
  rcases hr' with rfl|e
  ·exact hP2.ne
  ·rintro rfl;rw[hP2.obj] at e;cases e
 have xr:¬x=r':=by
  rcases hr' with rfl|e
  ·exact xp
  ·rintro rfl;rw[hR2.obj] at e;cases e
 have yr:¬y=r':=by
  rcases hr' with rfl|e
  ·exact yp
  ·rintro rfl;rw[hR2.row] at e;cases e
 have hP3:Prg (putS spO τ2 q2 r' (againS s t k)) q2 r' (againS s t k):=Scr.of_put rq hag
 have hR3:Ref (putS spO τ2 q2 r' (againS s t k)) x y s:=prg_other2 hR2 xq xr yq yr
 generalize putS spO τ2 q2 r' (againS s t k)=ρ at*
 clear hR2 hP2 hr' xq yq rq xr yr hrn
 have hro:=hR3.obj
 have hrow:=hR3.row
 unfold rfO at hro
 have hln:=hgood.len
 have hn:=s.n_le
 have hsl:(cellsA (s.cells.map (seen k))).length=s.n:=by simp[hln]
 simp[ranA,resC]
 intro p25 hp25
 rw[del_upd_new hp25]
 have x25:¬x=p25:=by rintro rfl;rw[hro] at hp25;cases hp25
 simp[hro,rowC,hln,x25]
 refine callK.eq (hsame _ _ _) ?_
 simp[hro,rowC,hln,x25]
 cases ha:s.alt
 ·rw[ha] at hcmd hro
  have hcmd2:(x0.cmd:Int)=2:=by rw[hcmd];rfl
  simp[hcmd2,hro,rowC,hln,x25]
  refine codeK.loop follows (st:=st3x) (plans:=pl3) (X:=Nat) (fun i=>i≤s.n)
   (fun i=>[(12,ptrA x),(13, .lit (.int .i64 k)),(16, .list false 6 (cellsA (s.cells.map (seen k)))),(23,ptrA q2),(139,rowC y s.n),(140, .lit (.int .i64 s.n)),(141, .lit (.int .i64 i))]) (fun _=>ρ) (fun i=>s.n-i) 0 (by kernel_rfl) (by simp) (by simp[rowC]) (Store.sub_refl _) fun i hi=> ?_
  by_cases hlt:i<s.n
  ·have hw:IntKind.i64.wrap ((i:Int)+1)=((i+1:Nat):Int):=wrap_i64 (by omega) (by omega)
   have hic:i<s.cells.length:=by omega
   have hgi:=cellsO_get hic
   have hle:i*6+6≤(cellsO s.cells).length:=by rw[cellsO_length];omega
   have hca:=againS_at hgood hgood2.model hmm k i hic
   have hfit:=hgood.fit _ (List.getElem_mem hic)
   have hli:(cellsA (s.cells.map (seen k)))[i]?=some (cellA (seen k s.cells[i])):=by simp[cellsA,hic]
   generalize s.cells[i]=c at*
   have hatc:=fun τ (hτ:Prg τ q2 r' (againS s t k))=>at_calls hτ (i:Int)
   rw[hca] at hatc
   have hsn:=fun τ=>sent_calls c.char τ
   have hcx:cellC c=[byteA c.char, .lit (.bool c.attr),byteA c.fa,byteA c.high,byteA c.color,byteA c.set]:=rfl
   rw[hcx] at hgi
   obtain ⟨f1,f2,f3⟩:=fitted_fa hfit
   have hq6:=eqLeaf_byte
   simp[hlt,rowC,hrow,hle,hgi]
   intro p28 hp28
   refine callK.eq (hatc _ (hP3.new hp28 _)) ?_
   have x28:¬x=p28:=by rintro rfl;rw[hro] at hp28;cases hp28
   have hkc:k=0∨k=1∨k=2:=by omega
   clear hatc hgi hle
   cases hat:c.attr
   ·have hfa:c.fa=0:=f3 hat
    have efa:byteA c.fa= .lit (.int .u8 0):=by rw[hfa];rfl
    rw[efa]
    rcases hkc with rfl|rfl|rfl
    ·skip
     have hse:cellA (seen 0 c)= .agg [byteA (codeB c.char), .lit (.bool false), .lit (.int .u8 0), .lit (.int .u8 0), .lit (.int .u8 0),byteA c.set]:=by simp[seen,hat,cellA_eq,byteA]
     rw[hse] at hli⊢
     simp
     intro p29 hp29
     simp only[ite_none] at hp29
     obtain ⟨n29,hp29⟩:=hp29
     have m29:=Ne.symm n29
     simp[n29,m29]
     refine callK.eq (hsn _) ?_
     simp[n29,m29,hq6,hli]
     refine ⟨i+1,by omega,by omega,by rw[hw];exact AV.le_refl _, ?_⟩
     (intro q;simp only[Store.upd,Store.del];(repeat' split)<;>first|exact Or.inr rfl|exact Or.inl rfl|(exfalso;omega)|(left;subst_vars;assumption)|simp_all)
    ·skip
     have hse:cellA (seen 1 c)= .agg [byteA (codeB c.char), .lit (.bool false), .lit (.int .u8 0), .lit (.int .u8 0), .lit (.int .u8 0),byteA c.set]:=by simp[seen,hat,cellA_eq,byteA]
     rw[hse] at hli⊢
     simp
     intro p29 hp29
     simp only[ite_none] at hp29
     obtain ⟨n29,hp29⟩:=hp29
     have m29:=Ne.symm n29
     simp[n29,m29]
     refine callK.eq (hsn _) ?_
     simp[n29,m29,hq6,hli]
     refine ⟨i+1,by omega,by omega,by rw[hw];exact AV.le_refl _, ?_⟩
     (intro q;simp only[Store.upd,Store.del];(repeat' split)<;>first|exact Or.inr rfl|exact Or.inl rfl|(exfalso;omega)|(left;subst_vars;assumption)|simp_all)
    ·skip
     have hse:cellA (seen 2 c)= .agg [byteA (codeB c.char), .lit (.bool false), .lit (.int .u8 0),byteA c.high,byteA c.color,byteA c.set]:=by simp[seen,hat,cellA_eq,byteA,hfa]
     rw[hse] at hli⊢
     simp
     intro p29 hp29
     simp only[ite_none] at hp29
     obtain ⟨n29,hp29⟩:=hp29
     have m29:=Ne.symm n29
     simp[n29,m29]
     refine callK.eq (hsn _) ?_
     simp[n29,m29,hq6,hli]
     refine ⟨i+1,by omega,by omega,by rw[hw];exact AV.le_refl _, ?_⟩
     (intro q;simp only[Store.upd,Store.del];(repeat' split)<;>first|exact Or.inr rfl|exact Or.inl rfl|(exfalso;omega)|(left;subst_vars;assumption)|simp_all)
   ·rcases hkc with rfl|rfl|rfl
    ·skip
     have hse:cellA (seen 0 c)= .agg [.lit (.int .u8 0), .lit (.bool true),byteA c.fa, .lit (.int .u8 0), .lit (.int .u8 0), .lit (.int .u8 0)]:=by simp[seen,hat,cellA_eq,byteA]
     rw[hse] at hli⊢
     simp
     intro p29 hp29
     simp only[ite_none] at hp29
     obtain ⟨n29,hp29⟩:=hp29
     have m29:=Ne.symm n29
     simp[n29,m29]
     refine callK.eq (hsn _) ?_
     simp[n29,m29,hq6,hli]
     refine ⟨i+1,by omega,by omega,by rw[hw];exact AV.le_refl _, ?_⟩
     (intro q;simp only[Store.upd,Store.del];(repeat' split)<;>first|exact Or.inr rfl|exact Or.inl rfl|(exfalso;omega)|(left;subst_vars;assumption)|simp_all)
    ·skip
     have hse:cellA (seen 1 c)= .agg [.lit (.int .u8 0), .lit (.bool true),byteA c.fa,byteA c.high,byteA c.color,byteA c.set]:=by simp[seen,hat,cellA_eq,byteA]
     rw[hse] at hli⊢
     simp
     intro p29 hp29
     simp only[ite_none] at hp29
     obtain ⟨n29,hp29⟩:=hp29
     have m29:=Ne.symm n29
     simp[n29,m29]
     refine callK.eq (hsn _) ?_
     simp[n29,m29,hq6,hli]
     refine ⟨i+1,by omega,by omega,by rw[hw];exact AV.le_refl _, ?_⟩
     (intro q;simp only[Store.upd,Store.del];(repeat' split)<;>first|exact Or.inr rfl|exact Or.inl rfl|(exfalso;omega)|(left;subst_vars;assumption)|simp_all)
    ·skip
     have hse:cellA (seen 2 c)= .agg [.lit (.int .u8 0), .lit (.bool true),byteA c.fa,byteA c.high,byteA c.color,byteA c.set]:=by simp[seen,hat,cellA_eq,byteA]
     rw[hse] at hli⊢
     simp
     intro p29 hp29
     simp only[ite_none] at hp29
     obtain ⟨n29,hp29⟩:=hp29
     have m29:=Ne.symm n29
     simp[n29,m29]
     refine callK.eq (hsn _) ?_
     simp[n29,m29,hq6,hli]
     refine ⟨i+1,by omega,by omega,by rw[hw];exact AV.le_refl _, ?_⟩
     (intro q;simp only[Store.upd,Store.del];(repeat' split)<;>first|exact Or.inr rfl|exact Or.inl rfl|(exfalso;omega)|(left;subst_vars;assumption)|simp_all)
  ·obtain rfl:i=s.n:=by omega
   have hcu:=fun τ (hτ:Prg τ q2 r' (againS s t k))=>cursor_calls hτ
   have hal:=fun τ (hτ:Prg τ q2 r' (againS s t k))=>alt_calls hτ
   rw[show (againS s t k).cursor=s.cursor from rfl] at hcu
   rw[show (againS s t k).alt=s.alt from rfl,ha] at hal
   simp[hro]
   repeat' first
    |with_reducible apply And.intro
    |(refine callK.eq (hcu _ hP3) ?_;simp[hro])
    |(refine callK.eq (hal _ hP3) ?_;simp[hro])
   all_goals exact ⟨_,Store.sub_refl _⟩
 ·rw[ha] at hcmd hro
  have hcmd2:(x0.cmd:Int)=3:=by rw[hcmd];rfl
  simp[hcmd2,hro,rowC,hln,x25]
  refine codeK.loop follows (st:=st3x) (plans:=pl3) (X:=Nat) (fun i=>i≤s.n)
   (fun i=>[(12,ptrA x),(13, .lit (.int .i64 k)),(16, .list false 6 (cellsA (s.cells.map (seen k)))),(23,ptrA q2),(139,rowC y s.n),(140, .lit (.int .i64 s.n)),(141, .lit (.int .i64 i))]) (fun _=>ρ) (fun i=>s.n-i) 0 (by kernel_rfl) (by simp) (by simp[rowC]) (Store.sub_refl _) fun i hi=> ?_
  by_cases hlt:i<s.n
  ·have hw:IntKind.i64.wrap ((i:Int)+1)=((i+1:Nat):Int):=wrap_i64 (by omega) (by omega)
   have hic:i<s.cells.length:=by omega
   have hgi:=cellsO_get hic
   have hle:i*6+6≤(cellsO s.cells).length:=by rw[cellsO_length];omega
   have hca:=againS_at hgood hgood2.model hmm k i hic
   have hfit:=hgood.fit _ (List.getElem_mem hic)
   have hli:(cellsA (s.cells.map (seen k)))[i]?=some (cellA (seen k s.cells[i])):=by simp[cellsA,hic]
   generalize s.cells[i]=c at*
   have hatc:=fun τ (hτ:Prg τ q2 r' (againS s t k))=>at_calls hτ (i:Int)
   rw[hca] at hatc
   have hsn:=fun τ=>sent_calls c.char τ
   have hcx:cellC c=[byteA c.char, .lit (.bool c.attr),byteA c.fa,byteA c.high,byteA c.color,byteA c.set]:=rfl
   rw[hcx] at hgi
   obtain ⟨f1,f2,f3⟩:=fitted_fa hfit
   have hq6:=eqLeaf_byte
   simp[hlt,rowC,hrow,hle,hgi]
   intro p28 hp28
   refine callK.eq (hatc _ (hP3.new hp28 _)) ?_
   have x28:¬x=p28:=by rintro rfl;rw[hro] at hp28;cases hp28
   have hkc:k=0∨k=1∨k=2:=by omega
   clear hatc hgi hle
   cases hat:c.attr
   ·have hfa:c.fa=0:=f3 hat
    have efa:byteA c.fa= .lit (.int .u8 0):=by rw[hfa];rfl
    rw[efa]
    rcases hkc with rfl|rfl|rfl
    ·skip
     have hse:cellA (seen 0 c)= .agg [byteA (codeB c.char), .lit (.bool false), .lit (.int .u8 0), .lit (.int .u8 0), .lit (.int .u8 0),byteA c.set]:=by simp[seen,hat,cellA_eq,byteA]
     rw[hse] at hli⊢
     simp
     intro p29 hp29
     simp only[ite_none] at hp29
     obtain ⟨n29,hp29⟩:=hp29
     have m29:=Ne.symm n29
     simp[n29,m29]
     refine callK.eq (hsn _) ?_
     simp[n29,m29,hq6,hli]
     refine ⟨i+1,by omega,by omega,by rw[hw];exact AV.le_refl _, ?_⟩
     (intro q;simp only[Store.upd,Store.del];(repeat' split)<;>first|exact Or.inr rfl|exact Or.inl rfl|(exfalso;omega)|(left;subst_vars;assumption)|simp_all)
    ·skip
     have hse:cellA (seen 1 c)= .agg [byteA (codeB c.char), .lit (.bool false), .lit (.int .u8 0), .lit (.int .u8 0), .lit (.int .u8 0),byteA c.set]:=by simp[seen,hat,cellA_eq,byteA]
     rw[hse] at hli⊢
     simp
     intro p29 hp29
     simp only[ite_none] at hp29
     obtain ⟨n29,hp29⟩:=hp29
     have m29:=Ne.symm n29
     simp[n29,m29]
     refine callK.eq (hsn _) ?_
     simp[n29,m29,hq6,hli]
     refine ⟨i+1,by omega,by omega,by rw[hw];exact AV.le_refl _, ?_⟩
     (intro q;simp only[Store.upd,Store.del];(repeat' split)<;>first|exact Or.inr rfl|exact Or.inl rfl|(exfalso;omega)|(left;subst_vars;assumption)|simp_all)
    ·skip
     have hse:cellA (seen 2 c)= .agg [byteA (codeB c.char), .lit (.bool false), .lit (.int .u8 0),byteA c.high,byteA c.color,byteA c.set]:=by simp[seen,hat,cellA_eq,byteA,hfa]
     rw[hse] at hli⊢
     simp
     intro p29 hp29
     simp only[ite_none] at hp29
     obtain ⟨n29,hp29⟩:=hp29
     have m29:=Ne.symm n29
     simp[n29,m29]
     refine callK.eq (hsn _) ?_
     simp[n29,m29,hq6,hli]
     refine ⟨i+1,by omega,by omega,by rw[hw];exact AV.le_refl _, ?_⟩
     (intro q;simp only[Store.upd,Store.del];(repeat' split)<;>first|exact Or.inr rfl|exact Or.inl rfl|(exfalso;omega)|(left;subst_vars;assumption)|simp_all)
   ·rcases hkc with rfl|rfl|rfl
    ·skip
     have hse:cellA (seen 0 c)= .agg [.lit (.int .u8 0), .lit (.bool true),byteA c.fa, .lit (.int .u8 0), .lit (.int .u8 0), .lit (.int .u8 0)]:=by simp[seen,hat,cellA_eq,byteA]
     rw[hse] at hli⊢
     simp
     intro p29 hp29
     simp only[ite_none] at hp29
     obtain ⟨n29,hp29⟩:=hp29
     have m29:=Ne.symm n29
     simp[n29,m29]
     refine callK.eq (hsn _) ?_
     simp[n29,m29,hq6,hli]
     refine ⟨i+1,by omega,by omega,by rw[hw];exact AV.le_refl _, ?_⟩
     (intro q;simp only[Store.upd,Store.del];(repeat' split)<;>first|exact Or.inr rfl|exact Or.inl rfl|(exfalso;omega)|(left;subst_vars;assumption)|simp_all)
    ·skip
     have hse:cellA (seen 1 c)= .agg [.lit (.int .u8 0), .lit (.bool true),byteA c.fa,byteA c.high,byteA c.color,byteA c.set]:=by simp[seen,hat,cellA_eq,byteA]
     rw[hse] at hli⊢
     simp
     intro p29 hp29
     simp only[ite_none] at hp29
     obtain ⟨n29,hp29⟩:=hp29
     have m29:=Ne.symm n29
     simp[n29,m29]
     refine callK.eq (hsn _) ?_
     simp[n29,m29,hq6,hli]
     refine ⟨i+1,by omega,by omega,by rw[hw];exact AV.le_refl _, ?_⟩
     (intro q;simp only[Store.upd,Store.del];(repeat' split)<;>first|exact Or.inr rfl|exact Or.inl rfl|(exfalso;omega)|(left;subst_vars;assumption)|simp_all)
    ·skip
     have hse:cellA (seen 2 c)= .agg [.lit (.int .u8 0), .lit (.bool true),byteA c.fa,byteA c.high,byteA c.color,byteA c.set]:=by simp[seen,hat,cellA_eq,byteA]
     rw[hse] at hli⊢
     simp
     intro p29 hp29
     simp only[ite_none] at hp29
     obtain ⟨n29,hp29⟩:=hp29
     have m29:=Ne.symm n29
     simp[n29,m29]
     refine callK.eq (hsn _) ?_
     simp[n29,m29,hq6,hli]
     refine ⟨i+1,by omega,by omega,by rw[hw];exact AV.le_refl _, ?_⟩
     (intro q;simp only[Store.upd,Store.del];(repeat' split)<;>first|exact Or.inr rfl|exact Or.inl rfl|(exfalso;omega)|(left;subst_vars;assumption)|simp_all)
  ·obtain rfl:i=s.n:=by omega
   have hcu:=fun τ (hτ:Prg τ q2 r' (againS s t k))=>cursor_calls hτ
   have hal:=fun τ (hτ:Prg τ q2 r' (againS s t k))=>alt_calls hτ
   rw[show (againS s t k).cursor=s.cursor from rfl] at hcu
   rw[show (againS s t k).alt=s.alt from rfl,ha] at hal
   simp[hro]
   repeat' first
    |with_reducible apply And.intro
    |(refine callK.eq (hcu _ hP3) ?_;simp[hro])
    |(refine callK.eq (hal _ hP3) ?_;simp[hro])
   all_goals exact ⟨_,Store.sub_refl _⟩
theorem open_bytes:Opens Tryz.prog 28 (fun l:List UInt8=>[.list false 1 (bytesA l)]) (fun l=>l.length≤maxLen):=
 (Opens.slice Tryz.underlying28 (sz:=1) (by kernel_rfl) (by omega) (Opens.u8 Tryz.underlying5) byteA (fun _=>rfl) (fun _=>rfl)).by id fun _ h=>⟨h.1,rfl⟩
theorem open_cell:Opens Tryz.prog 49 (fun c:Cell=>cellC c) (fun _=>True):=
 (Opens.struct (total:=6) Tryz.underlying49 (by kernel_rfl)
  (.cons (k:=1) rfl (by kernel_rfl) (by omega) (Opens.u8 Tryz.underlying5) (.cons (k:=1) rfl (by kernel_rfl) (by omega) (Opens.bool Tryz.underlying4) (.cons (k:=1) rfl (by kernel_rfl) (by omega) (Opens.u8 Tryz.underlying5)
   (.cons (k:=1) rfl (by kernel_rfl) (by omega) (Opens.u8 Tryz.underlying5) (.cons (k:=1) rfl (by kernel_rfl) (by omega) (Opens.u8 Tryz.underlying5) (.cons (k:=1) rfl (by kernel_rfl) (by omega) (Opens.u8 Tryz.underlying5) .nil))))))).by
  (fun x=>⟨x.1,x.2.1,x.2.2.1,x.2.2.2.1,x.2.2.2.2.1,x.2.2.2.2.2.1⟩) fun _ _=>⟨trivial,rfl⟩
theorem open_act:Opens Tryz.prog 65 (fun a:Sp.Act=>actC a) (fun a=>a.text.length≤maxLen):=
 (Opens.struct (total:=11) Tryz.underlying65 (by kernel_rfl)
  (.cons (k:=1) rfl (by kernel_rfl) (by omega) (Opens.u8 Tryz.underlying5) (.cons (k:=1) rfl (by kernel_rfl) (by omega) (Opens.i64 Tryz.underlying3) (.cons (k:=1) rfl (by kernel_rfl) (by omega) (Opens.bool Tryz.underlying4)
   (.cons (k:=1) rfl (by kernel_rfl) (by omega) (Opens.u8 Tryz.underlying5) (.cons (k:=6) rfl (by kernel_rfl) (by omega) open_cell (.cons (k:=1) rfl (by kernel_rfl) (by omega) open_bytes .nil))))))).by
  (fun x=>⟨x.1,x.2.1,x.2.2.1,x.2.2.2.1,x.2.2.2.2.1,x.2.2.2.2.2.1⟩) fun _ h=>⟨h.2.2.2.2.2.1,rfl⟩
theorem open_acts:Opens Tryz.prog 22 (fun l:List Sp.Act=>[.list false 11 (actsA l)]) (fun l=>l.length≤maxLen∧∀a∈l,a.text.length≤maxLen):=
 Opens.slice Tryz.underlying22 (by kernel_rfl) (by omega) open_act actA (fun _=>rfl) (fun _=>rfl)
end Go.Proofs.YtjnopnpkfhopbaaGreatDoor
