/-
 Screens as objects: the document's ways to make one.
-/
import Derived.Test.YtjnopnpkfhopbaaGreatDoorPart14
set_option linter.unusedSimpArgs false
set_option linter.unusedVariables false
set_option maxRecDepth 8000
set_option maxHeartbeats 8000000
namespace Go.Proofs.YtjnopnpkfhopbaaGreatDoor
open Go Go.AL Go.Sp
theorem cellA_eq (c:Cell):cellA c= .agg [byteA c.char, .lit (.bool c.attr),byteA c.fa,byteA c.high,byteA c.color,byteA c.set]:=rfl
theorem rput_calls {q p:Nat} {s:Sp} {σ:Store} (h:Ref σ q p s) (k:Int) (b:UInt8):ACalls Tryz.prog 47 [ptrA q, .lit (.int .i64 k),byteA b] σ fun v σ'=>v= .tuple []∧σ'=putS rfO σ q p (s.put k b):=by
 have ha:=fun τ (ht:Ref τ q p s)=>rat_calls ht k
 have hs:=fun τ (ht:Ref τ q p s) c=>rset_calls ht k c
 simp only[cellA_eq] at ha hs
 refine aw st47 pl47 19 Tryz.func47 rfl ?_
 simp
 refine callK.of (ha _ h) ?_
 rintro v σ' ⟨rfl,rfl⟩
 by_cases hc:(s.at k).attr=true
 ·have hp:s.put k b=s:=by unfold Sp.put;rw[if_pos hc]
  simp+contextual [hc,hp,h.put_self]
 ·have hc':(s.at k).attr=false:=by simpa using hc
  have hp:s.put k b=s.set k {s.at k with char:=b} :=by unfold Sp.put;rw[if_neg hc]
  rw[hp]
  have hs2:∀(τ:Store),Ref τ q p s→ACalls Tryz.prog 48 [ptrA q, .lit (.int .i64 k), .agg [byteA b, .lit (.bool false),byteA (s.at k).fa,byteA (s.at k).high,byteA (s.at k).color,byteA (s.at k).set]] τ fun v σ'=>v= .tuple []∧σ'=putS rfO τ q p (s.set k {s.at k with char:=b}):=fun τ ht=>by
   have:=hs τ ht {s.at k with char:=b}
   rw[←hc'];exact this
  generalize s.set k {s.at k with char:=b} =s2 at*
  simp[hc']
  intro r hr
  obtain ⟨n1,n2,n3,n4⟩:=h.fresh hr
  refine callK.of (hs2 _ (h.new hr _)) ?_
  rintro v σ' ⟨rfl,rfl⟩
  simp[putS]
  (intro q;simp only[Store.upd,Store.del];(repeat' split)<;>first|exact Or.inr rfl|exact Or.inl rfl|(exfalso;omega)|(left;subst_vars;assumption)|simp_all)
theorem rclear_calls {q:Nat} {s:Sp} {B:AV} {cu:Int} {r c:Int} {L:AV} {σ:Store} (alt:Bool) (hm:2≤s.model∧s.model≤5) (ho:σ q=some [.lit (.int .i64 s.model),B, .lit (.int .i64 r), .lit (.int .i64 c),L, .lit (.int .i64 cu)]):
  ACalls Tryz.prog 45 [ptrA q, .lit (.bool alt)] σ fun v σ'=>v= .tuple []∧∃p:Nat,σ p=none∧σ'=putS rfO σ q p (s.clear alt):=by
 have h2:=rmodel_calls (m:=2) (by omega)
 have hmm:=rmodel_calls hm
 have hcl:=rcells_calls (dim_of s.model alt)
 have hz:=cellsO_zeros ((dims s.model alt).1*(dims s.model alt).2)
 have hbd:=dims_bound s.model alt
 have hd2:(dims s.model alt)=if alt=true then dims s.model true else dims 2 true:=by cases alt<;>simp[dims]
 have hrf:∀p,rfO (s.clear alt) p=[.lit (.int .i64 s.model), .lit (.bool alt), .lit (.int .i64 (dims s.model alt).1), .lit (.int .i64 (dims s.model alt).2),rowC p ((dims s.model alt).1*(dims s.model alt).2), .lit (.int .i64 (0:Nat))]:=fun _=>rfl
 have hce:(s.clear alt).cells=List.replicate ((dims s.model alt).1*(dims s.model alt).2) .zero:=rfl
 have h22:dimM 2=dimA (dims 2 true).1 (dims 2 true).2:=rfl
 have hmq:dimM s.model=dimA (dims s.model true).1 (dims s.model true).2:=rfl
 rw[h22] at h2
 rw[hmq] at hmm
 simp only[putS,hrf,hce,←hz]
 refine aw st45 pl45 39 Tryz.func45 rfl ?_
 cases alt
 ·simp only[Bool.false_eq_true,if_false] at hd2
  rw[←hd2] at h2
  generalize (dims s.model false).1=R at*
  generalize (dims s.model false).2=C at*
  unfold dimA at h2 hcl
  simp[ho]
  refine callK.of (h2 _) ?_
  rintro v σ' ⟨rfl,rfl⟩
  simp
  refine callK.of (hcl _) ?_
  rintro v σ' ⟨rfl,rfl⟩
  have hT:((R:Int)*(C:Int)).toNat=R*C:=by rw[←Int.natCast_mul];rfl
  have hb1:(0:Int)≤(R:Int)*(C:Int):=by rw[←Int.natCast_mul];omega
  have hb2:(R:Int)*(C:Int)≤3564:=by rw[←Int.natCast_mul];omega
  have hb3:(R:Int)*(C:Int)≤9223372036854775807:=by omega
  have hb4:6*((R:Int)*(C:Int))≤281474976710656:=by omega
  have hzz:cellC .zero=[.lit (.int .u8 0), .lit (.bool false), .lit (.int .u8 0), .lit (.int .u8 0), .lit (.int .u8 0), .lit (.int .u8 0)]:=rfl
  simp+contextual [hT,hb1,hb3,hb4,ite_free]
  intro p n1 n2 hp
  refine ⟨_,AV.le_refl _,_, ?_,rfl,p,hp,rfl⟩
  simp only[rowC,hzz]
  (intro q;simp only[Store.upd,Store.del];(repeat' split)<;>first|exact Or.inr rfl|exact Or.inl rfl|(exfalso;omega)|(left;subst_vars;assumption)|simp_all)
 ·simp only[if_true] at hd2
  have h2':∃R2 C2:Nat,dimA (dims 2 true).1 (dims 2 true).2= .agg [.lit (.int .i64 R2), .lit (.int .i64 C2)]:=⟨_,_,rfl⟩
  obtain ⟨R2,C2,h2'⟩:=h2'
  rw[h2'] at h2
  generalize (dims s.model true).1=R at*
  generalize (dims s.model true).2=C at*
  unfold dimA at hmm hcl
  have hT:((R:Int)*(C:Int)).toNat=R*C:=by rw[←Int.natCast_mul];rfl
  have hb1:(0:Int)≤(R:Int)*(C:Int):=by rw[←Int.natCast_mul];omega
  have hb2:(R:Int)*(C:Int)≤3564:=by rw[←Int.natCast_mul];omega
  have hb3:(R:Int)*(C:Int)≤9223372036854775807:=by omega
  have hb4:6*((R:Int)*(C:Int))≤281474976710656:=by omega
  have hzz:cellC .zero=[.lit (.int .u8 0), .lit (.bool false), .lit (.int .u8 0), .lit (.int .u8 0), .lit (.int .u8 0), .lit (.int .u8 0)]:=rfl
  simp[ho]
  refine callK.of (h2 _) ?_
  rintro v σ' ⟨rfl,rfl⟩
  simp
  refine callK.of (hmm _) ?_
  rintro v σ' ⟨rfl,rfl⟩
  simp
  refine callK.of (hcl _) ?_
  rintro v σ' ⟨rfl,rfl⟩
  simp+contextual [hT,hb1,hb3,hb4,ite_free]
  intro p n1 n2 hp
  refine ⟨_,AV.le_refl _,_, ?_,rfl,p,hp,rfl⟩
  simp only[rowC,hzz]
  (intro q;simp only[Store.upd,Store.del];(repeat' split)<;>first|exact Or.inr rfl|exact Or.inl rfl|(exfalso;omega)|(left;subst_vars;assumption)|simp_all)
theorem rnew_calls {m:Nat} (hm:2≤m∧m≤5) (σ:Store):ACalls Tryz.prog 19 [.lit (.int .i64 m)] σ fun v σ'=>∃q p:Nat,v=ptrA q∧σ q=none∧σ p=none∧q≠p∧σ'=putS rfO σ q p (Sp.new m):=by
 have hmo:=rmodel_calls hm
 have hmq:dimM m= .agg [.lit (.int .i64 (dims m true).1), .lit (.int .i64 (dims m true).2)]:=rfl
 rw[hmq] at hmo
 have hcl:=fun (q:Nat) (L B:AV) (r c cu:Int) (τ:Store) (ho:τ q=some [.lit (.int .i64 m),B, .lit (.int .i64 r), .lit (.int .i64 c),L, .lit (.int .i64 cu)])=>rclear_calls (s:=⟨m,false,[],0⟩) false hm ho
 refine aw st19 pl19 19 Tryz.func19 rfl ?_
 simp
 refine callK.of (hmo _) ?_
 rintro v σ' ⟨rfl,rfl⟩
 simp+contextual [ite_free]
 intro r hr q n1 n2 hq
 refine callK.of (hcl q (.list true 6 []) (.lit (.bool false)) 0 0 0 _ (by simp)) ?_
 rintro v σ1 ⟨rfl,p,hp,rfl⟩
 simp[ite_free] at hp
 obtain ⟨p1,p2,p3,p4,p5⟩:=hp
 simp
 refine ⟨_,AV.le_refl _,_, ?_,q,rfl,hq,p,p5,by omega,rfl⟩
 simp only[putS]
 have:rfO (Sp.clear {model:=m,alt:=false,cells:=[],cursor:=0} false) p=rfO (Sp.new m) p:=rfl
 have h2:(Sp.clear {model:=m,alt:=false,cells:=[],cursor:=0} false).cells=(Sp.new m).cells:=rfl
 rw[this,h2]
 (intro q;simp only[Store.upd,Store.del];(repeat' split)<;>first|exact Or.inr rfl|exact Or.inl rfl|(exfalso;omega)|(left;subst_vars;assumption)|simp_all)
def actC (a:Sp.Act):List AV:=[byteA a.what, .lit (.int .i64 a.n), .lit (.bool a.on),byteA a.code]++cellC a.c++[.list false 1 (bytesA a.text)]
def actA (a:Sp.Act):AV:= .agg (actC a)
theorem putAll_snoc (s:Sp) (k:Int):∀(l:List UInt8) (i:Nat) (c:UInt8),Sp.putAll s k i (l++[c])=(Sp.putAll s k i l).put (k+((i+l.length:Nat):Int)) c:=by
 intro l
 induction l generalizing s with
 |nil=>intro i c;simp[Sp.putAll]
 |cons x l ih=>
  intro i c
  simp only[List.cons_append,Sp.putAll,ih,List.length_cons]
  congr 2;omega
def DoR (σ:Store) (q p:Nat) (s2:Sp) (v:AV) (σ':Store):Prop:=v= .tuple []∧∃p',(p'=p∨σ p'=none)∧σ'=putS rfO σ q p' s2
theorem act_what {a:Sp.Act} {j:Nat} (h:a.what.toNat % 6=j):((a.what.toNat:Int).tmod 6)=(j:Int):=by rw[←h];rfl
theorem putS_twice {f:Sp→Nat→List AV} {σ:Store} {q p:Nat} (s s2:Sp) (_hne:q≠p):putS f (putS f σ q p s) q p s2=putS f σ q p s2:=by
 funext k;simp only[putS,Store.upd]
 (repeat' split)<;>first|rfl|(exfalso;omega)
theorem rdo_0 {q p:Nat} {s:Sp} {σ:Store} (h:Ref σ q p s) (a:Sp.Act) (hk:a.what.toNat % 6=0):ACalls Tryz.prog 20 [ptrA q,actA a] σ (DoR σ q p (s.clear a.on)):=by
 have ht:=act_what hk
 have hc:=fun τ (hτ:Ref τ q p s)=>rclear_calls (σ:=τ) a.on hτ.good.model hτ.obj
 refine aw st20 pl20 69 Tryz.func20 rfl ?_
 simp[actA,actC,cellC,byteA,ht]
 intro b hb
 refine callK.of (hc _ (h.new hb _)) ?_
 rintro v σ' ⟨rfl,p',hp',rfl⟩
 simp[ite_free] at hp'
 obtain ⟨n1,n2,n3⟩:=hp'
 obtain ⟨m1,m2,m3,m4⟩:=h.fresh hb
 simp
 refine ⟨_,AV.le_refl _,putS rfO σ q p' (s.clear a.on), ?_,rfl,p', .inr n3,rfl⟩
 simp only[putS]
 (intro q;simp only[Store.upd,Store.del];(repeat' split)<;>first|exact Or.inr rfl|exact Or.inl rfl|(exfalso;omega)|(left;subst_vars;assumption)|simp_all)
theorem rdo_1 {q p:Nat} {s:Sp} {σ:Store} (h:Ref σ q p s) (a:Sp.Act) (hk:a.what.toNat % 6=1):ACalls Tryz.prog 20 [ptrA q,actA a] σ (DoR σ q p (s.place a.n)):=by
 have ht:=act_what hk
 have hw:=fun τ (hτ:Ref τ q p s)=>rswrap_calls hτ a.n
 have ho:=h.obj
 have hr:=h.row
 have hrf:rfO (s.place a.n) p=[.lit (.int .i64 s.model), .lit (.bool s.alt), .lit (.int .i64 s.rows), .lit (.int .i64 s.cols),rowC p s.n, .lit (.int .i64 (wrap s.n a.n))]:=rfl
 have hcc:(s.place a.n).cells=s.cells:=rfl
 have hps:putS rfO σ q p (s.place a.n)=(σ.upd q (rfO (s.place a.n) p)):=by
  rw[putS,hcc];exact upd_back (by simp[Ne.symm h.ne,hr])
 unfold rfO at ho
 refine aw st20 pl20 69 Tryz.func20 rfl ?_
 simp[actA,actC,cellC,byteA,ht]
 intro b hb
 obtain ⟨m1,m2,m3,m4⟩:=h.fresh hb
 refine callK.of (hw _ (h.new hb _)) ?_
 rintro v σ' ⟨rfl,rfl⟩
 simp[m1,ho]
 refine ⟨_,AV.le_refl _,putS rfO σ q p (s.place a.n), ?_,rfl,p, .inl rfl,rfl⟩
 rw[hps,hrf]
 (intro q;simp only[Store.upd,Store.del];(repeat' split)<;>first|exact Or.inr rfl|exact Or.inl rfl|(exfalso;omega)|(left;subst_vars;assumption)|simp_all)
theorem rdo_2 {q p:Nat} {s:Sp} {σ:Store} (h:Ref σ q p s) (a:Sp.Act) (hk:a.what.toNat % 6=2):ACalls Tryz.prog 20 [ptrA q,actA a] σ (DoR σ q p (s.put a.n a.code)):=by
 have ht:=act_what hk
 have hw:=fun τ (hτ:Ref τ q p s)=>rput_calls hτ a.n a.code
 refine aw st20 pl20 69 Tryz.func20 rfl ?_
 simp[actA,actC,cellC,byteA,ht]
 intro b hb
 obtain ⟨m1,m2,m3,m4⟩:=h.fresh hb
 refine callK.of (hw _ (h.new hb _)) ?_
 rintro v σ' ⟨rfl,rfl⟩
 simp
 refine ⟨_,AV.le_refl _,putS rfO σ q p _, ?_,rfl,p, .inl rfl,rfl⟩
 simp only[putS]
 (intro q;simp only[Store.upd,Store.del];(repeat' split)<;>first|exact Or.inr rfl|exact Or.inl rfl|(exfalso;omega)|(left;subst_vars;assumption)|simp_all)
theorem rdo_3 {q p:Nat} {s:Sp} {σ:Store} (h:Ref σ q p s) (a:Sp.Act) (hk:a.what.toNat % 6=3):ACalls Tryz.prog 20 [ptrA q,actA a] σ (DoR σ q p (s.set a.n {attr:=true,fa:=a.code})):=by
 have ht:=act_what hk
 have hw:=fun τ (hτ:Ref τ q p s)=>rset_calls hτ a.n {attr:=true,fa:=a.code}
 simp only[cellA_eq,byteA] at hw
 refine aw st20 pl20 69 Tryz.func20 rfl ?_
 simp[actA,actC,cellC,byteA,ht]
 intro b hb
 obtain ⟨m1,m2,m3,m4⟩:=h.fresh hb
 refine callK.of (hw _ (h.new hb _)) ?_
 rintro v σ' ⟨rfl,rfl⟩
 simp
 refine ⟨_,AV.le_refl _,putS rfO σ q p _, ?_,rfl,p, .inl rfl,rfl⟩
 simp only[putS]
 (intro q;simp only[Store.upd,Store.del];(repeat' split)<;>first|exact Or.inr rfl|exact Or.inl rfl|(exfalso;omega)|(left;subst_vars;assumption)|simp_all)
theorem rdo_4 {q p:Nat} {s:Sp} {σ:Store} (h:Ref σ q p s) (a:Sp.Act) (hk:a.what.toNat % 6=4):ACalls Tryz.prog 20 [ptrA q,actA a] σ (DoR σ q p (s.set a.n a.c)):=by
 have ht:=act_what hk
 have hw:=fun τ (hτ:Ref τ q p s)=>rset_calls hτ a.n a.c
 simp only[cellA_eq,byteA] at hw
 refine aw st20 pl20 69 Tryz.func20 rfl ?_
 simp[actA,actC,cellC,byteA,ht]
 intro b hb
 obtain ⟨m1,m2,m3,m4⟩:=h.fresh hb
 refine callK.of (hw _ (h.new hb _)) ?_
 rintro v σ' ⟨rfl,rfl⟩
 simp
 refine ⟨_,AV.le_refl _,putS rfO σ q p _, ?_,rfl,p, .inl rfl,rfl⟩
 simp only[putS]
 (intro q;simp only[Store.upd,Store.del];(repeat' split)<;>first|exact Or.inr rfl|exact Or.inl rfl|(exfalso;omega)|(left;subst_vars;assumption)|simp_all)
theorem take_min_succ {l:List UInt8} {i:Nat} (h:i<l.length) (h2:i<200):(l.take 200).take (i+1)=(l.take 200).take i++[l[i]]:=by
 have h3:i<(l.take 200).length:=by simp;omega
 rw[List.take_succ_eq_append_getElem h3];simp
theorem rdo_5 {q p:Nat} {s:Sp} {σ:Store} (h:Ref σ q p s) (a:Sp.Act) (hk:a.what.toNat % 6=5) (hl:a.text.length≤9223372036854775807):ACalls Tryz.prog 20 [ptrA q,actA a] σ (DoR σ q p (Sp.putAll s (wrap s.n a.n) 0 (a.text.take 200))):=by
 have ht:=act_what hk
 have hln:=wrap_lt s.n_pos a.n
 have hn:=s.n_le
 refine aw st20 pl20 69 Tryz.func20 rfl ?_
 have hac:actC a=[.lit (.int .u8 a.what.toNat), .lit (.int .i64 a.n), .lit (.bool a.on), .lit (.int .u8 a.code.toNat), .lit (.int .u8 a.c.char.toNat), .lit (.bool a.c.attr), .lit (.int .u8 a.c.fa.toNat), .lit (.int .u8 a.c.high.toNat), .lit (.int .u8 a.c.color.toNat), .lit (.int .u8 a.c.set.toNat), .list false 1 (bytesA a.text)]:=rfl
 simp[actA,actC,cellC,byteA,ht]
 intro b hb
 obtain ⟨m1,m2,m3,m4⟩:=h.fresh hb
 refine codeK.loop follows (st:=st20) (plans:=pl20) (X:=Nat) (fun i=>i≤a.text.length)
  (fun i=>[(0,ptrA q),(3,ptrA b),(10, .list false 1 (bytesA a.text)),(11, .lit (.int .i64 a.text.length)),(12, .lit (.int .i64 i))])
  (fun i=>(putS rfO σ q p (Sp.putAll s (wrap s.n a.n) 0 ((a.text.take 200).take i))).upd b (actC a))
  (fun i=>a.text.length-i) 0 (by kernel_rfl) (by simp) (by simp) (by simp[Sp.putAll,hac];rw[h.put_self];(intro q;simp only[Store.upd,Store.del];(repeat' split)<;>first|exact Or.inr rfl|exact Or.inl rfl|(exfalso;omega)|(left;subst_vars;assumption)|simp_all)) fun i hi=> ?_
 by_cases hlt:i<a.text.length
 ·have hw:IntKind.i64.wrap ((i:Int)+1)=((i+1:Nat):Int):=wrap_i64 (by omega) (by omega)
  have hbt:=bytesA_at a.text i hlt
  by_cases h2:i<200
  ·have h2i:(i:Int)<200:=by omega
   have hsn:=take_min_succ hlt h2
   have hpa:=putAll_snoc s (wrap s.n a.n) ((a.text.take 200).take i) 0 a.text[i]
   rw[←hsn] at hpa
   have hlen:((a.text.take 200).take i).length=i:=by simp;omega
   rw[hlen] at hpa
   have hmi:(Sp.putAll s (wrap s.n a.n) 0 ((a.text.take 200).take i)).n=s.n:=Sp.putAll_n _ _ _ _
   have hgi:(Sp.putAll s (wrap s.n a.n) 0 ((a.text.take 200).take i)).good:=Sp.putAll_good _ _ _ h.good
   have hw2:IntKind.i64.wrap ((wrap s.n a.n:Int)+(i:Int))=(wrap s.n a.n:Int)+((0+i:Nat):Int):=by
    rw[wrap_i64 (by omega) (by omega)];simp
   rw[hac]
   obtain ⟨s2,hs2⟩:∃s2,Sp.putAll s (wrap s.n a.n) 0 ((a.text.take 200).take (i+1))=s2:=⟨_,rfl⟩
   rw[hs2] at hpa
   generalize Sp.putAll s (wrap s.n a.n) 0 ((a.text.take 200).take i)=s1 at*
   have hR:Ref (putS rfO σ q p s1) q p s1:=Scr.of_put h.ne hgi
   have hR2:=hR.upd ⟨m1,m2⟩ (actC a)
   rw[hac] at hR2
   have hwr:=rswrap_calls hR2 a.n
   rw[hmi] at hwr
   have hpu:=rput_calls hR2 ((wrap s.n a.n:Int)+((0+i:Nat):Int)) a.text[i]
   rw[←hpa] at hpu
   simp+contextual [hlt,h2i,hbt,byteA]
   refine callK.of hwr ?_
   rintro v σ' ⟨rfl,rfl⟩
   simp[hw2]
   refine callK.of (by simpa[byteA] using hpu) ?_
   rintro v σ' ⟨rfl,rfl⟩
   simp
   refine ⟨i+1,by omega,by omega,by rw[hw];exact AV.le_refl _, ?_⟩
   rw[hs2]
   simp only[putS]
   (intro q;simp only[Store.upd,Store.del];(repeat' split)<;>first|exact Or.inr rfl|exact Or.inl rfl|(exfalso;omega)|(left;subst_vars;assumption)|simp_all)
  ·have h2i:¬(i:Int)<200:=by omega
   have h200:(a.text.take 200).length≤200:=by simp;omega
   have hsame:(a.text.take 200).take (i+1)=(a.text.take 200).take i:=
    (List.take_of_length_le (show (a.text.take 200).length≤i+1 by omega)).trans (List.take_of_length_le (show (a.text.take 200).length≤i by omega)).symm
   rw[hac]
   simp+contextual [hlt,h2i,hbt,byteA]
   refine ⟨i+1,by omega,by omega,by rw[hw];exact AV.le_refl _, ?_⟩
   rw[hsame]
   exact Store.sub_refl _
 ·obtain rfl:i=a.text.length:=by omega
  have hall:(a.text.take 200).take a.text.length=a.text.take 200:=List.take_of_length_le (by simp;omega)
  rw[hall]
  simp
  refine ⟨_,AV.le_refl _,putS rfO σ q p _, ?_,rfl,p, .inl rfl,rfl⟩
  simp only[putS]
  (intro q;simp only[Store.upd,Store.del];(repeat' split)<;>first|exact Or.inr rfl|exact Or.inl rfl|(exfalso;omega)|(left;subst_vars;assumption)|simp_all)
theorem rdo_calls {q p:Nat} {s:Sp} {σ:Store} (h:Ref σ q p s) (a:Sp.Act) (hl:a.text.length≤9223372036854775807):ACalls Tryz.prog 20 [ptrA q,actA a] σ (DoR σ q p (s.act a)):=by
 unfold Sp.act
 by_cases h0:a.what.toNat % 6=0
 ·rw[if_pos h0];exact rdo_0 h a h0
 by_cases h1:a.what.toNat % 6=1
 ·rw[if_neg h0,if_pos h1];exact rdo_1 h a h1
 by_cases h2:a.what.toNat % 6=2
 ·rw[if_neg h0,if_neg h1,if_pos h2];exact rdo_2 h a h2
 by_cases h3:a.what.toNat % 6=3
 ·rw[if_neg h0,if_neg h1,if_neg h2,if_pos h3];exact rdo_3 h a h3
 by_cases h4:a.what.toNat % 6=4
 ·rw[if_neg h0,if_neg h1,if_neg h2,if_neg h3,if_pos h4];exact rdo_4 h a h4
 ·rw[if_neg h0,if_neg h1,if_neg h2,if_neg h3,if_neg h4];exact rdo_5 h a (by omega) hl
def spO (s:Sp) (p:Nat):List AV:=[.lit (.int .i64 s.model), .lit (.bool s.alt), .lit (.int .i64 s.rows), .lit (.int .i64 s.cols),rowC p s.n, .lit (.int .i64 s.cursor), .lit (.int .i64 s.count)]
abbrev Prg:=Scr spO
theorem size_calls {q p:Nat} {s:Sp} {σ:Store} (h:Prg σ q p s):ACalls Tryz.prog 53 [ptrA q] σ fun v σ'=>v= .agg [.lit (.int .i64 s.rows), .lit (.int .i64 s.cols)]∧σ'=σ:=by
 have ho:=h.obj
 unfold spO at ho
 refine aw st53 pl53 10 Tryz.func53 rfl ?_
 simp[ho]
 intro r hr
 obtain ⟨m1,m2,m3,m4⟩:=h.fresh hr
 simp[m1]
 (intro q;simp only[Store.upd,Store.del];(repeat' split)<;>first|exact Or.inr rfl|exact Or.inl rfl|(exfalso;omega)|(left;subst_vars;assumption)|simp_all)
theorem count_calls (c:Cell) (σ:Store):ACalls Tryz.prog 50 [cellA c] σ fun v σ'=>v= .lit (.int .i64 (if c.attr=true then 1 else 0))∧σ'=σ:=by
 refine aw st50 pl50 5 Tryz.func50 rfl ?_
 obtain ⟨ch,a,fa,hi,co,se⟩:=c
 cases a<;>simp+contextual [cellA,cellC]
theorem cursor_calls {q p:Nat} {s:Sp} {σ:Store} (h:Prg σ q p s):ACalls Tryz.prog 15 [ptrA q] σ fun v σ'=>v= .lit (.int .i64 s.cursor)∧σ'=σ:=by
 have ho:=h.obj
 unfold spO at ho
 refine aw st15 pl15 9 Tryz.func15 rfl ?_
 simp[ho]
theorem formatted_calls {q p:Nat} {s:Sp} {σ:Store} (h:Prg σ q p s):ACalls Tryz.prog 68 [ptrA q] σ fun v σ'=>v= .lit (.bool (decide (0<s.count)))∧σ'=σ:=by
 have ho:=h.obj
 unfold spO at ho
 refine aw st68 pl68 12 Tryz.func68 rfl ?_
 simp[ho]
theorem swrap_calls (s:Sp) (k:Int) (σ:Store):ACalls Tryz.prog 40 [.agg [.lit (.int .i64 s.rows), .lit (.int .i64 s.cols)], .lit (.int .i64 k)] σ fun v σ'=>v= .lit (.int .i64 (wrap s.n k))∧σ'=σ:=wrap_calls (dim_of s.model s.alt) k σ
theorem scells_calls (s:Sp) (σ:Store):ACalls Tryz.prog 49 [.agg [.lit (.int .i64 s.rows), .lit (.int .i64 s.cols)]] σ fun v σ'=>v= .lit (.int .i64 s.n)∧σ'=σ:=cells_calls (dim_of s.model s.alt) σ
theorem at_calls {q p:Nat} {s:Sp} {σ:Store} (h:Prg σ q p s) (k:Int):ACalls Tryz.prog 13 [ptrA q, .lit (.int .i64 k)] σ fun v σ'=>v=cellA (s.at k)∧σ'=σ:=by
 have ho:=h.obj
 have hr:=h.row
 have hw:=fun τ=>swrap_calls s k τ
 obtain ⟨hlt,hlL,hg⟩:=at_row h.good k
 unfold spO at ho
 generalize s.at k=c at*
 generalize cellsO s.cells=L at*
 refine aw st13 pl13 20 Tryz.func13 rfl ?_
 simp[ho,rowC]
 intro r hx
 obtain ⟨n1,n2,_⟩:=h.fresh hx
 simp[ho,rowC,n1]
 repeat' apply And.intro
 all_goals
  refine callK.of (hw _) ?_
  rintro v σ' ⟨rfl,rfl⟩
  simp[ho,hr,rowC,n1,n2,hlt,hlL,hg,cellC]
  exact ⟨AV.le_refl _,by (intro q;simp only[Store.upd,Store.del];(repeat' split)<;>first|exact Or.inr rfl|exact Or.inl rfl|(exfalso;omega)|(left;subst_vars;assumption)|simp_all)⟩
theorem place_calls {q p:Nat} {s:Sp} {σ:Store} (h:Prg σ q p s) (k:Int):ACalls Tryz.prog 23 [ptrA q, .lit (.int .i64 k)] σ fun v σ'=>v= .tuple []∧σ'=putS spO σ q p (s.place k):=by
 have ho:=h.obj
 have hr:=h.row
 have hw:=fun τ=>swrap_calls s k τ
 have hrf:spO (s.place k) p=[.lit (.int .i64 s.model), .lit (.bool s.alt), .lit (.int .i64 s.rows), .lit (.int .i64 s.cols),rowC p s.n, .lit (.int .i64 (wrap s.n k)), .lit (.int .i64 s.count)]:=rfl
 have hps:putS spO σ q p (s.place k)=(σ.upd q (spO (s.place k) p)):=by
  rw[putS];exact upd_back (by simp[Ne.symm h.ne];exact hr)
 rw[hps,hrf]
 unfold spO at ho
 refine aw st23 pl23 15 Tryz.func23 rfl ?_
 simp[ho]
 refine callK.of (hw _) ?_
 rintro v σ' ⟨rfl,rfl⟩
 simp[ho]
theorem count_set {l:List Cell} {i:Nat} (h:i<l.length) (c:Cell):((l.set i c).countP (·.attr):Int)=(l.countP (·.attr):Int)+((if c.attr=true then 1 else 0)-(if l[i].attr=true then 1 else 0)):=by
 induction l generalizing i with
 |nil=>simp at h
 |cons x l ih=>
  cases i with
  |zero=>simp[List.countP_cons];split<;>split<;>omega
  |succ i=>
   have:=ih (i:=i) (by simpa using h)
   simp[List.countP_cons] at this⊢;omega
theorem count_le (s:Sp):s.count≤s.cells.length:=List.countP_le_length
theorem and61 (b:UInt8):pureBin .and (.int .u8 (b.toNat:Int)) (.int .u8 61)=some (.int .u8 ((Sp.six b).toNat:Int)):=and_u8 b 61
theorem setRange_one {α:Type} (cs:List α) (off:Nat) (x:α):setRange cs off [x]=cs.set off x:=nr rfl
theorem set_calls {q p:Nat} {s:Sp} {σ:Store} (h:Prg σ q p s) (k:Int) (c:Cell):ACalls Tryz.prog 22 [ptrA q, .lit (.int .i64 k),cellA c] σ fun v σ'=>v= .tuple []∧σ'=putS spO σ q p (s.set k c):=by
 have ho:=h.obj
 have hr:=h.row
 have hw:=fun τ=>swrap_calls s k τ
 obtain ⟨hlt,hlL,hg⟩:=at_row h.good k
 have hlt':wrap s.n k<s.cells.length:=by rw[h.good.len];exact hlt
 have hset:=cellsO_set hlt' (Sp.fit c)
 have hcn:=count_set hlt' (Sp.fit c)
 have hca:=count_calls (Sp.fit c)
 have hcb:=count_calls (s.at k)
 have hak:s.at k=s.cells[wrap s.n k]:=by simp[Sp.at,hlt']
 have hcl:=count_le s
 have hn:=s.n_le
 rw[h.good.len] at hcl
 have hcc:(s.set k c).cells=s.cells.set (wrap s.n k) (Sp.fit c):=rfl
 have hrf:spO (s.set k c) p=[.lit (.int .i64 s.model), .lit (.bool s.alt), .lit (.int .i64 s.rows), .lit (.int .i64 s.cols),rowC p s.n, .lit (.int .i64 s.cursor), .lit (.int .i64 (s.set k c).count)]:=rfl
 have hc2:((s.set k c).count:Int)=(s.count:Int)+((if (Sp.fit c).attr=true then 1 else 0)-(if (s.at k).attr=true then 1 else 0)):=by rw[hak];exact hcn
 have hx:∃x:Int,(if (Sp.fit c).attr=true then (1:Int) else 0)=x∧0≤x∧x≤1:=⟨_,rfl,by split<;>omega,by split<;>omega⟩
 have hy:∃y:Int,(if (s.at k).attr=true then (1:Int) else 0)=y∧0≤y∧y≤1:=⟨_,rfl,by split<;>omega,by split<;>omega⟩
 obtain ⟨x,hx,x0,x1⟩:=hx
 obtain ⟨y,hy,y0,y1⟩:=hy
 rw[hx,hy] at hc2
 rw[hx] at hca
 rw[hy] at hcb
 have hs1:IntKind.i64.wrap (x-y)=x-y:=wrap_i64 (by omega) (by omega)
 have hs2:IntKind.i64.wrap ((s.count:Int)+(x-y))=((s.set k c).count:Int):=by rw[wrap_i64 (by omega) (by omega),hc2]
 simp only[putS,hcc,hrf]
 generalize cellsO (s.cells.set (wrap s.n k) (Sp.fit c))=M at*
 unfold spO at ho
 clear hak hcn hcc hrf hc2 hx hy hcl
 generalize (s.set k c).count=cnt at*
 generalize s.count=cnt0 at*
 have hgc:cellC (s.at k)=[byteA (s.at k).char, .lit (.bool (s.at k).attr),byteA (s.at k).fa,byteA (s.at k).high,byteA (s.at k).color,byteA (s.at k).set]:=rfl
 rw[cellA_eq] at hcb
 rw[hgc] at hg
 generalize s.at k=old at*
 generalize cellsO s.cells=L at*
 have hpq:¬p=q:=Ne.symm h.ne
 have hqp:¬q=p:=h.ne
 by_cases hc:c.attr=true
 ·have hf:Sp.fit c=⟨0,true,Sp.six c.fa,c.high,c.color,c.set⟩:=by unfold Sp.fit;rw[if_pos hc,hc]
  rw[hf] at hca hset
  have e1:cellA ⟨0,true,Sp.six c.fa,c.high,c.color,c.set⟩= .agg [.lit (.int .u8 0), .lit (.bool true), .lit (.int .u8 (Sp.six c.fa).toNat),byteA c.high,byteA c.color,byteA c.set]:=rfl
  have e2:cellC ⟨0,true,Sp.six c.fa,c.high,c.color,c.set⟩=[.lit (.int .u8 0), .lit (.bool true), .lit (.int .u8 (Sp.six c.fa).toNat),byteA c.high,byteA c.color,byteA c.set]:=rfl
  rw[e1] at hca
  rw[e2] at hset
  rw[cellA_eq,hc]
  have e3:byteA c.fa= .lit (.int .u8 c.fa.toNat):=rfl
  rw[e3]
  refine aw st22 pl22 47 Tryz.func22 rfl ?_
  simp[-e_pureBin_8,and61]
  intro b hb
  obtain ⟨m1,m2,m3,m4⟩:=h.fresh hb
  simp[-e_pureBin_8,m1,ho,rowC]
  refine callK.of (hw _) ?_
  rintro v σ' ⟨rfl,rfl⟩
  simp[m1,m2,ho,hr,rowC,hlt,hlL,hg]
  repeat' apply And.intro
  all_goals
   refine callK.of (hca _) ?_
   rintro v σ' ⟨rfl,rfl⟩
   simp[m1,m2,ho,hr,rowC,hlt,hlL,hg]
   repeat' apply And.intro
  all_goals
   refine callK.of (hcb _) ?_
   rintro v σ' ⟨rfl,rfl⟩
   simp[-e_setRange_1, -e_setRange_2,setRange_one,m1,m2,m3,ho,hr,rowC,hlt,hlL,hs1,hs2,hpq,hset]
   (intro q;simp only[Store.upd,Store.del];(repeat' split)<;>first|exact Or.inr rfl|exact Or.inl rfl|(exfalso;omega)|(left;subst_vars;assumption)|simp_all)
 ·have hc':c.attr=false:=by simpa using hc
  have hf:Sp.fit c=⟨c.char,false,0,c.high,c.color,c.set⟩:=by unfold Sp.fit;rw[if_neg hc,hc']
  rw[hf] at hca hset
  have e1:cellA ⟨c.char,false,0,c.high,c.color,c.set⟩= .agg [byteA c.char, .lit (.bool false), .lit (.int .u8 0),byteA c.high,byteA c.color,byteA c.set]:=rfl
  have e2:cellC ⟨c.char,false,0,c.high,c.color,c.set⟩=[byteA c.char, .lit (.bool false), .lit (.int .u8 0),byteA c.high,byteA c.color,byteA c.set]:=rfl
  rw[e1] at hca
  rw[e2] at hset
  rw[cellA_eq,hc']
  refine aw st22 pl22 47 Tryz.func22 rfl ?_
  simp
  intro b hb
  obtain ⟨m1,m2,m3,m4⟩:=h.fresh hb
  simp[m1,ho,rowC]
  refine callK.of (hw _) ?_
  rintro v σ' ⟨rfl,rfl⟩
  simp[m1,m2,ho,hr,rowC,hlt,hlL,hg]
  repeat' apply And.intro
  all_goals
   refine callK.of (hca _) ?_
   rintro v σ' ⟨rfl,rfl⟩
   simp[m1,m2,ho,hr,rowC,hlt,hlL,hg]
   repeat' apply And.intro
  all_goals
   refine callK.of (hcb _) ?_
   rintro v σ' ⟨rfl,rfl⟩
   simp[-e_setRange_1, -e_setRange_2,setRange_one,m1,m2,m3,ho,hr,rowC,hlt,hlL,hs1,hs2,hpq,hset]
   (intro q;simp only[Store.upd,Store.del];(repeat' split)<;>first|exact Or.inr rfl|exact Or.inl rfl|(exfalso;omega)|(left;subst_vars;assumption)|simp_all)
theorem count_zeros (n:Nat):(List.replicate n Cell.zero).countP (·.attr)=0:=by
 induction n with
 |zero=>rfl
 |succ n ih=>rw[List.replicate_succ,List.countP_cons,ih];rfl
theorem clear_calls {q:Nat} {s:Sp} {B:AV} {cu cn r c:Int} {L:AV} {σ:Store} (alt:Bool) (hm:2≤s.model∧s.model≤5) (ho:σ q=some [.lit (.int .i64 s.model),B, .lit (.int .i64 r), .lit (.int .i64 c),L, .lit (.int .i64 cu), .lit (.int .i64 cn)]):
  ACalls Tryz.prog 21 [ptrA q, .lit (.bool alt)] σ fun v σ'=>v= .tuple []∧∃p:Nat,σ p=none∧σ'=putS spO σ q p (s.clear alt):=by
 have h2:=model_calls (m:=2) (by omega)
 have hmm:=model_calls hm
 have hcl:=cells_calls (dim_of s.model alt)
 have hz:=cellsO_zeros ((dims s.model alt).1*(dims s.model alt).2)
 have hbd:=dims_bound s.model alt
 have hd2:(dims s.model alt)=if alt=true then dims s.model true else dims 2 true:=by cases alt<;>simp[dims]
 have hcz:(s.clear alt).count=0:=count_zeros _
 have hrf:∀p,spO (s.clear alt) p=[.lit (.int .i64 s.model), .lit (.bool alt), .lit (.int .i64 (dims s.model alt).1), .lit (.int .i64 (dims s.model alt).2),rowC p ((dims s.model alt).1*(dims s.model alt).2), .lit (.int .i64 (0:Nat)), .lit (.int .i64 (0:Nat))]:=fun p=>by
  simp only[spO,hcz];rfl
 have hce:(s.clear alt).cells=List.replicate ((dims s.model alt).1*(dims s.model alt).2) .zero:=rfl
 have h22:dimM 2=dimA (dims 2 true).1 (dims 2 true).2:=rfl
 have hmq:dimM s.model=dimA (dims s.model true).1 (dims s.model true).2:=rfl
 rw[h22] at h2
 rw[hmq] at hmm
 simp only[putS,hrf,hce,←hz]
 have hzz:cellC .zero=[.lit (.int .u8 0), .lit (.bool false), .lit (.int .u8 0), .lit (.int .u8 0), .lit (.int .u8 0), .lit (.int .u8 0)]:=rfl
 refine aw st21 pl21 39 Tryz.func21 rfl ?_
 cases alt
 ·simp only[Bool.false_eq_true,if_false] at hd2
  rw[←hd2] at h2
  clear hmm hmq h22 hcz
  generalize (dims s.model false).1=R at*
  generalize (dims s.model false).2=C at*
  unfold dimA at h2 hcl
  have hT:((R:Int)*(C:Int)).toNat=R*C:=by rw[←Int.natCast_mul];rfl
  have hb1:(0:Int)≤(R:Int)*(C:Int):=by rw[←Int.natCast_mul];omega
  have hb2:(R:Int)*(C:Int)≤3564:=by rw[←Int.natCast_mul];omega
  have hb3:(R:Int)*(C:Int)≤9223372036854775807:=by omega
  have hb4:6*((R:Int)*(C:Int))≤281474976710656:=by omega
  simp[ho]
  refine callK.of (h2 _) ?_
  rintro v σ' ⟨rfl,rfl⟩
  simp
  refine callK.of (hcl _) ?_
  rintro v σ' ⟨rfl,rfl⟩
  simp+contextual [hT,hb1,hb3,hb4,ite_free]
  intro p n1 n2 hp
  refine ⟨_,AV.le_refl _,_, ?_,rfl,p,hp,rfl⟩
  simp only[rowC,hzz]
  (intro q;simp only[Store.upd,Store.del];(repeat' split)<;>first|exact Or.inr rfl|exact Or.inl rfl|(exfalso;omega)|(left;subst_vars;assumption)|simp_all)
 ·simp only[if_true] at hd2
  generalize (dims s.model true).1=R at*
  generalize (dims s.model true).2=C at*
  unfold dimA at hmm hcl
  have hT:((R:Int)*(C:Int)).toNat=R*C:=by rw[←Int.natCast_mul];rfl
  have hb1:(0:Int)≤(R:Int)*(C:Int):=by rw[←Int.natCast_mul];omega
  have hb2:(R:Int)*(C:Int)≤3564:=by rw[←Int.natCast_mul];omega
  have hb3:(R:Int)*(C:Int)≤9223372036854775807:=by omega
  have hb4:6*((R:Int)*(C:Int))≤281474976710656:=by omega
  simp[ho]
  refine callK.of (hmm _) ?_
  rintro v σ' ⟨rfl,rfl⟩
  simp
  refine callK.of (hcl _) ?_
  rintro v σ' ⟨rfl,rfl⟩
  simp+contextual [hT,hb1,hb3,hb4,ite_free]
  intro p n1 n2 hp
  refine ⟨_,AV.le_refl _,_, ?_,rfl,p,hp,rfl⟩
  simp only[rowC,hzz]
  (intro q;simp only[Store.upd,Store.del];(repeat' split)<;>first|exact Or.inr rfl|exact Or.inl rfl|(exfalso;omega)|(left;subst_vars;assumption)|simp_all)
theorem new_calls {m:Nat} (hm:2≤m∧m≤5) (σ:Store):ACalls Tryz.prog 18 [.lit (.int .i64 m)] σ fun v σ'=>∃q p:Nat,v= .tuple [ptrA q, .lit (.int .i64 0)]∧σ q=none∧σ p=none∧q≠p∧σ'=putS spO σ q p (Sp.new m):=by
 have hmo:=model_calls hm
 have hmq:dimM m= .agg [.lit (.int .i64 (dims m true).1), .lit (.int .i64 (dims m true).2)]:=rfl
 rw[hmq] at hmo
 have hcl:=fun (q:Nat) (L B:AV) (r c cu cn:Int) (τ:Store) (ho:τ q=some [.lit (.int .i64 m),B, .lit (.int .i64 r), .lit (.int .i64 c),L, .lit (.int .i64 cu), .lit (.int .i64 cn)])=>clear_calls (s:=⟨m,false,[],0⟩) false hm ho
 refine aw st18 pl18 21 Tryz.func18 rfl ?_
 simp
 refine callK.of (hmo _) ?_
 rintro v σ' ⟨rfl,rfl⟩
 simp+contextual [ite_free]
 intro r hr q n1 n2 hq
 refine callK.of (hcl q (.list true 6 []) (.lit (.bool false)) 0 0 0 0 _ (by simp)) ?_
 rintro v σ1 ⟨rfl,p,hp,rfl⟩
 simp[ite_free] at hp
 obtain ⟨p1,p2,p3,p4,p5⟩:=hp
 simp
 refine ⟨_,AV.le_refl _,_, ?_,q,rfl,hq,p,p5,by omega,rfl⟩
 simp only[putS]
 have:spO (Sp.clear {model:=m,alt:=false,cells:=[],cursor:=0} false) p=spO (Sp.new m) p:=rfl
 have h2:(Sp.clear {model:=m,alt:=false,cells:=[],cursor:=0} false).cells=(Sp.new m).cells:=rfl
 rw[this,h2]
 (intro q;simp only[Store.upd,Store.del];(repeat' split)<;>first|exact Or.inr rfl|exact Or.inl rfl|(exfalso;omega)|(left;subst_vars;assumption)|simp_all)
theorem cellsO_char:∀(l:List Cell) (i:Nat) (h:i<l.length) (b:UInt8),(cellsO l).set (i*6) (byteA b)=cellsO (l.set i {l[i] with char:=b})
 |c::l,0,_,b=>by simp[cellsO,cellC]
 |c::l,i+1,h,b=>by
  have ih:=cellsO_char l i (by simpa using h) b
  have e:(i+1)*6=6+i*6:=by omega
  simp only[cellsO,List.flatMap_cons,List.set_cons_succ,List.getElem_cons_succ] at ih⊢
  rw[e,List.set_append,if_neg (by rw[cellC_length];omega),cellC_length,show 6+i*6-6=i*6 from by omega,ih]
theorem put_cells {s:Sp} (h:s.good) (k:Int) (b:UInt8) (hc:(s.at k).attr=false):(s.put k b).cells=s.cells.set (wrap s.n k) {s.at k with char:=b} ∧(s.put k b).count=s.count:=by
 have hlt:=wrap_lt s.n_pos k
 have hlt':wrap s.n k<s.cells.length:=by rw[h.len];exact hlt
 have hak:s.at k=s.cells[wrap s.n k]:=by simp[Sp.at,hlt']
 have hf:=h.fit _ (List.getElem_mem hlt')
 rw[←hak] at hf
 unfold fitted Sp.fit at hf
 rw[if_neg (by simp[hc])] at hf
 have hfa:(s.at k).fa=0:=by rw[←hf]
 have hput:s.put k b=s.set k {s.at k with char:=b} :=by unfold Sp.put;rw[if_neg (by simp[hc])]
 have hfit:Sp.fit {s.at k with char:=b} = {s.at k with char:=b} :=by unfold Sp.fit;rw[if_neg (by simp[hc]),←hfa]
 have hcells:(s.put k b).cells=s.cells.set (wrap s.n k) {s.at k with char:=b} :=by rw[hput];unfold Sp.set Sp.put1;rw[hfit]
 refine ⟨hcells, ?_⟩
 have hda:({s.at k with char:=b} :Cell).attr=false:=hc
 generalize ({s.at k with char:=b} :Cell)=d at*
 have hcn:=count_set hlt' d
 rw[←hak,hc,hda] at hcn
 simp at hcn
 unfold Sp.count
 rw[hcells];exact Int.ofNat.inj hcn
theorem spO_put (s:Sp) (k:Int) (b:UInt8) (p:Nat) (h:(s.put k b).count=s.count):spO (s.put k b) p=spO s p:=by
 have hm:=s.model_put k b
 have hcu:(s.put k b).cursor=s.cursor:=by unfold Sp.put;split<;>rfl
 unfold spO Sp.rows Sp.cols Sp.n Sp.rows Sp.cols
 rw[hm.1,hm.2,hcu,h]
theorem pput_calls {q p:Nat} {s:Sp} {σ:Store} (h:Prg σ q p s) (k:Int) (b:UInt8):ACalls Tryz.prog 72 [ptrA q, .lit (.int .i64 k),byteA b] σ fun v σ'=>v= .tuple []∧σ'=putS spO σ q p (s.put k b):=by
 have ho:=h.obj
 have hr:=h.row
 have hw:=fun τ=>swrap_calls s k τ
 have hlt:=wrap_lt s.n_pos k
 have hlt':wrap s.n k<s.cells.length:=by rw[h.good.len];exact hlt
 have hak:s.at k=s.cells[wrap s.n k]:=by simp[Sp.at,hlt']
 have hg1:=cellsO_get1 (j:=1) hlt' (by omega)
 rw[←hak] at hg1
 have hg2:(cellsO s.cells)[wrap s.n k*6+1]?=some (.lit (.bool (s.at k).attr)):=hg1
 have hle:wrap s.n k*6+1≤(cellsO s.cells).length:=by rw[cellsO_length];omega
 have hset:=cellsO_char s.cells (wrap s.n k) hlt' b
 rw[←hak] at hset
 have hpq:¬p=q:=Ne.symm h.ne
 have hqp:¬q=p:=h.ne
 unfold spO at ho
 refine aw st72 pl72 29 Tryz.func72 rfl ?_
 by_cases hc:(s.at k).attr=true
 ·have hp:s.put k b=s:=by unfold Sp.put;rw[if_pos hc]
  rw[hp,h.put_self]
  rw[hc] at hg2
  simp[ho,rowC]
  refine ⟨?_, ?_⟩
  all_goals
   refine callK.of (hw _) ?_
   rintro v σ' ⟨rfl,rfl⟩
   simp[ho,hr,rowC,hlt,hg2]
 ·have hc':(s.at k).attr=false:=by simpa using hc
  obtain ⟨hp1,hp2⟩:=put_cells h.good k b hc'
  have hfin:putS spO σ q p (s.put k b)=σ.upd p (cellsO (s.cells.set (wrap s.n k) {s.at k with char:=b})):=by
   rw[putS,spO_put s k b p hp2,upd_back h.obj,hp1]
  rw[hfin,←hset]
  rw[hc'] at hg2
  simp[ho,rowC]
  refine ⟨?_, ?_⟩
  all_goals
   refine callK.of (hw _) ?_
   rintro v σ' ⟨rfl,rfl⟩
   simp[ho,hr,rowC,hlt,hg2]
   exact hle
end Go.Proofs.YtjnopnpkfhopbaaGreatDoor
