/-
 No field is modified; all that is not protected goes.
-/
import Derived.Test.YtjnopnpkfhopbaaGreatDoorPart23
set_option linter.unusedSimpArgs false
set_option linter.unusedVariables false
set_option maxRecDepth 8000
set_option maxHeartbeats 8000000
namespace Go.Proofs.YtjnopnpkfhopbaaGreatDoor
open Go Go.AL Go.Sp
theorem andNot1 (b:UInt8):pureBin .andNot (.int .u8 (b.toNat:Int)) (.int .u8 1)=some (.int .u8 ((b&&&0xfe).toNat:Int)):=by
 have h:IntKind.u8.wrap ((BitVec.ofInt IntKind.u8.bits (b.toNat:Int)&&& ~~~BitVec.ofInt IntKind.u8.bits 1).toNat:Int)=((b&&&0xfe).toNat:Int):=
  all_bytes (p:=fun b=>IntKind.u8.wrap ((BitVec.ofInt IntKind.u8.bits (b.toNat:Int)&&& ~~~BitVec.ofInt IntKind.u8.bits 1).toNat:Int)=((b&&&0xfe).toNat:Int)) (by decide+kernel) b
 unfold pureBin
 simp only[if_true]
 rw[h]
def clr (c:Cell):Cell:= {c with fa:=c.fa&&&0xfe}
def unmod1 (s:Sp) (a:Nat):Sp:=s.set a (clr (s.at a))
def unmodTo (s:Sp) (k:Nat):Sp:=(s.attrs.take k).foldl unmod1 s
def unmodS (s:Sp):Sp:=s.attrs.foldl unmod1 s
def unprot1 (s:Sp) (a:Nat):Sp:=if (fldAt s a).prot=true then s else unmod1 (nullS s (Sp.places s.cells a)) a
def unprotTo (s:Sp) (k:Nat):Sp:=(s.attrs.take k).foldl unprot1 s
def unprotS (s:Sp):Sp:=if s.count=0 then (nullS s (List.range s.n)).place 0 else
 (s.attrs.foldl unprot1 s).place (max (nextS (s.attrs.foldl unprot1 s) (s.n-1)) 0)
theorem fit_attr (c:Cell):(Sp.fit c).attr=c.attr:=by unfold Sp.fit;split<;>rfl
theorem attrAt_set {s:Sp} (h:s.good) (k:Int) (c:Cell) (i:Nat):attrAt (s.set k c).cells i=if i=wrap s.n k then c.attr else attrAt s.cells i:=by
 have hlt:=wrap_lt s.n_pos k
 have hlt':wrap s.n k<s.cells.length:=by rw[h.len];exact hlt
 unfold attrAt Sp.set Sp.put1
 simp only[List.getElem?_set]
 by_cases hi:i=wrap s.n k
 ·subst hi;simp[hlt',fit_attr]
 ·rw[if_neg hi,if_neg (Ne.symm hi)]
theorem nullS_attr {s:Sp} (h:s.good) (l:List Nat) (i:Nat):attrAt (nullS s l).cells i=attrAt s.cells i:=by
 have:∀(l:List Nat) (t:Sp),t.good→attrAt (nullS t l).cells i=attrAt t.cells i:=by
  intro l
  induction l with
  |nil=>intro t _;rfl
  |cons a l ih=>intro t ht;exact (ih _ (ht.put _ _)).trans (attrAt_put ht _ _ _)
 exact this l s h
structure KeepA (s t:Sp):Prop where
 same:SameN s t
 attr:∀i,attrAt t.cells i=attrAt s.cells i
theorem KeepA.refl {s:Sp} (h:s.good):KeepA s s:=⟨SameN.refl h,fun _=>rfl⟩
theorem KeepA.trans {a b c:Sp} (h:KeepA a b) (k:KeepA b c):KeepA a c:=⟨h.same.trans k.same,fun i=>(k.attr i).trans (h.attr i)⟩
theorem KeepA.attrs {s t:Sp} (h:KeepA s t) (hs:s.good):t.attrs=s.attrs:=by
 rw[attrs_eq _ h.same.1,attrs_eq _ hs,h.same.n]
 congr 1
 funext i;exact h.attr i
theorem keep_unmod1 {s:Sp} (h:s.good) {a:Nat} (ha:a<s.n) (hat:attrAt s.cells a=true):KeepA s (unmod1 s a):=by
 refine ⟨(SameN.refl h).set _ _,fun i=> ?_⟩
 unfold unmod1
 rw[attrAt_set h,wrap_of_lt ha]
 split
 ·rename_i hi;subst hi
  show (s.at (i:Int)).attr=_
  rw[attrAt_at ha]
 ·rfl
theorem keep_null {s:Sp} (h:s.good) (l:List Nat):KeepA s (nullS s l):=⟨(SameN.refl h).nullS l,nullS_attr h l⟩
theorem keep_unprot1 {s:Sp} (h:s.good) {a:Nat} (ha:a<s.n) (hat:attrAt s.cells a=true):KeepA s (unprot1 s a):=by
 unfold unprot1
 split
 ·exact KeepA.refl h
 ·have h1:=keep_null h (Sp.places s.cells a)
  exact h1.trans (keep_unmod1 h1.same.1 (by rw[h1.same.n];exact ha) (by rw[h1.attr];exact hat))
theorem keep_fold (f:Sp→Nat→Sp) (hf:∀s:Sp,s.good→∀a,a<s.n→attrAt s.cells a=true→KeepA s (f s a)) {s:Sp} (h:s.good):∀(l:List Nat) (t:Sp),KeepA s t→(∀a∈l,a<s.n∧attrAt s.cells a=true)→KeepA s (l.foldl f t)
 |[],_,ht,_=>ht
 |a::l,t,ht,hl=>keep_fold f hf h l (f t a) (ht.trans (hf t ht.same.1 a (by rw[ht.same.n];exact (hl a (by simp)).1) (by rw[ht.attr];exact (hl a (by simp)).2))) fun b hb=>hl b (List.mem_cons_of_mem _ hb)
theorem attr_mem {s:Sp} (h:s.good):∀a∈s.attrs,a<s.n∧attrAt s.cells a=true:=fun a ha=>by
 obtain ⟨h1,h2⟩:=mem_attrs ha
 rw[h.len] at h1;exact ⟨h1,h2⟩
theorem keep_unmodTo {s:Sp} (h:s.good) (k:Nat):KeepA s (unmodTo s k):=keep_fold _ (fun _s h _a h1 h2=>keep_unmod1 h h1 h2) h _ _ (KeepA.refl h) fun a ha=>attr_mem h a (List.mem_of_mem_take ha)
theorem keep_unprotTo {s:Sp} (h:s.good) (k:Nat):KeepA s (unprotTo s k):=keep_fold _ (fun _s h _a h1 h2=>keep_unprot1 h h1 h2) h _ _ (KeepA.refl h) fun a ha=>attr_mem h a (List.mem_of_mem_take ha)
theorem fam_unmod {s:Sp} (h:s.good):Fam (unmodTo s):=⟨fun k=>(keep_unmodTo h k).same.1,fun k=>(keep_unmodTo h k).same.n,fun k i=>(keep_unmodTo h k).attr i⟩
theorem fam_unprot {s:Sp} (h:s.good):Fam (unprotTo s):=⟨fun k=>(keep_unprotTo h k).same.1,fun k=>(keep_unprotTo h k).same.n,fun k i=>(keep_unprotTo h k).attr i⟩
theorem unmodTo_succ (s:Sp) (k:Nat) (h:k<s.attrs.length):unmodTo s (k+1)=unmod1 (unmodTo s k) s.attrs[k]:=by
 unfold unmodTo;rw[List.take_succ_eq_append_getElem h,List.foldl_append];rfl
theorem unprotTo_succ (s:Sp) (k:Nat) (h:k<s.attrs.length):unprotTo s (k+1)=unprot1 (unprotTo s k) s.attrs[k]:=by
 unfold unprotTo;rw[List.take_succ_eq_append_getElem h,List.foldl_append];rfl
theorem unmodTo_all (s:Sp):unmodTo s s.attrs.length=unmodS s:=by unfold unmodTo unmodS;rw[List.take_length]
theorem unmodify_calls {q r:Nat} {s:Sp} {σ:Store} (h:Prg σ q r s):ACalls Tryz.prog 66 [ptrA q] σ fun v σ'=>v= .tuple []∧σ'=putS spO σ q r (unmodS s):=by
 have hac:=fun τ=>attrs_calls2 q τ
 have hall:=unmodTo_all s
 have hz0:unmodTo s 0=s:=rfl
 have hfam:=fam_unmod h.good
 have hat0:(unmodTo s 0).attrs=s.attrs:=rfl
 rw[←hall]
 refine ACalls.of_awpY follows (st:=st66) (plans:=pl66) (n:=18) Tryz.func66 rfl (by kernel_rfl) (by kernel_rfl) (by kernel_rfl) ?_
 simp
 intro b hb
 have hb0:=h.fresh hb
 refine callK.of (hac _) ?_
 rintro v σ' ⟨b2,f2,rfl,rfl⟩
 simp only[supd_apply,ite_none] at f2
 have g2:=h.fresh f2.2
 simp
 refine codeYK.rangeG follows (st:=st66) (plans:=pl66) (attrs_iterF b2 q r (unmodTo s) hfam _) (by simp) (by simp) (by simp) (by kernel_rfl) (by kernel_rfl) (by kernel_rfl)
  (fun k ρ E=>Lv σ ρ q r (unmodTo s k)∧ρ b=some [ptrA q]∧ρ b2=some [ptrA q]) (fun c ρ E=>False)
  _ ⟨?_, ?_, ?_⟩ (Store.sub_refl _) ?_ ?_ ?_ ?_
 ·rw[hz0]
  exact ((Lv.refl h).new hb [ptrA q]).new (b:=b2) (by simp[f2]) [ptrA q]
 ·simp[Ne.symm f2.1]
 ·simp
 ·rintro k ρ E hk ⟨hL,_,h2⟩
  exact ⟨h2,hL.prg⟩
 ·rintro k hk ρ E ⟨hL,hρb,hρ2⟩
  rw[hat0] at hk
  have hkp:=keep_unmodTo h.good k
  have hsucc:=unmodTo_succ s k hk
  obtain ⟨m1,m2⟩:=attr_mem h.good _ (List.getElem_mem hk)
  have hget:(unmodTo s 0).attrs[k]?.getD 0=s.attrs[k]:=by rw[hat0,List.getElem?_eq_getElem hk];rfl
  rw[hget,hsucc]
  generalize s.attrs[k]=a at*
  generalize unmodTo s k=t at*
  have hat:=fun τ (hτ:Prg τ q r t)=>at_calls hτ (a:Int)
  have hse:=fun τ (hτ:Prg τ q r t)=>set_calls hτ (a:Int) (clr (t.at (a:Int)))
  have hk2:=keep_unmod1 hkp.same.1 (a:=a) (by rw[hkp.same.n];exact m1) (by rw[hkp.attr];exact m2)
  have hun:unmod1 t a=t.set (a:Int) (clr (t.at (a:Int))):=rfl
  rw[hun] at hk2⊢
  generalize hc:t.at (a:Int)=c at*
  have hcl:cellA (clr c)= .agg [byteA c.char, .lit (.bool c.attr),byteA (c.fa&&&0xfe),byteA c.high,byteA c.color,byteA c.set]:=rfl
  rw[cellA_eq c] at hat
  rw[hcl] at hse
  have e1:=byteA_lit c.fa
  have e2:=byteA_lit (c.fa&&&0xfe)
  have han:=andNot1 c.fa
  rw[e1] at hat
  rw[e2] at hse
  simp[hρb]
  refine callK.of (hat _ hL.prg) ?_
  rintro v σ2 ⟨rfl,rfl⟩
  simp[-e_pureBin_11,han]
  intro t3 ht3
  have k1:¬b=t3:=by rintro rfl;rw[hρb] at ht3;cases ht3
  have k2:¬b2=t3:=by rintro rfl;rw[hρ2] at ht3;cases ht3
  simp[k1,hρb]
  refine callK.of (hse _ (hL.new ht3 _).prg) ?_
  rintro v σ3 ⟨rfl,rfl⟩
  simp
  refine ⟨_,Store.sub_refl _,(hL.new ht3 _).put hk2.same.1, ?_, ?_⟩
  ·rw[putS_at hb0.2.2.1 hb0.2.2.2];simp[k1,hρb]
  ·rw[putS_at g2.2.2.1 g2.2.2.2];simp[k2,hρ2]
 ·rintro ρ E2 σ2 hs2 ⟨hL,_,_⟩
  simp
  rw[hat0] at hL
  exact (hL.mono hs2).sub
 ·rintro c ρ E2 σ2 hs2 hF
  exact hF.elim
theorem nullS_range (s:Sp) (k:Nat):nullS s (List.range (k+1))=(nullS s (List.range k)).put (k:Int) 0:=by
 unfold nullS;rw[List.range_succ,List.foldl_append];rfl
theorem nullall_calls {q r:Nat} {s:Sp} {σ:Store} (h:Prg σ q r s):ACalls Tryz.prog 69 [ptrA q] σ fun v σ'=>v= .tuple []∧σ'=putS spO σ q r (nullS s (List.range s.n)):=by
 have hsz:=fun τ (hτ:Prg τ q r s)=>size_calls hτ
 have hcl:=fun τ=>scells_calls s τ
 have hnl:=s.n_le
 refine aw st69 pl69 13 Tryz.func69 rfl ?_
 simp
 refine callK.of (hsz _ h) ?_
 rintro v σ' ⟨rfl,rfl⟩
 simp
 refine callK.of (hcl _) ?_
 rintro v σ2 ⟨rfl,rfl⟩
 simp
 refine codeK.loop follows (st:=st69) (plans:=pl69) (X:=Nat) (fun k=>k≤s.n)
  (fun k=>[(0,ptrA q),(5, .lit (.int .i64 s.n)),(6, .lit (.int .i64 k))]) (fun k=>putS spO σ2 q r (nullS s (List.range k))) (fun k=>s.n-k) 0 (by kernel_rfl) (by simp) (by simp) (by
   have hz0:nullS s (List.range 0)=s:=rfl
   rw[hz0,h.put_self];exact Store.sub_refl _) fun k hk=> ?_
 have hkp:=keep_null h.good (List.range k)
 have hP:Prg (putS spO σ2 q r (nullS s (List.range k))) q r (nullS s (List.range k)):=Scr.of_put h.ne hkp.same.1
 by_cases hlt:k<s.n
 ·have hw:IntKind.i64.wrap ((k:Int)+1)=((k+1:Nat):Int):=wrap_i64 (by omega) (by omega)
  have hpu:=pput_calls hP (k:Int) 0
  rw[putS_twice _ _ h.ne,←nullS_range] at hpu
  simp[hlt]
  refine callK.of hpu ?_
  rintro v σ3 ⟨rfl,rfl⟩
  simp
  exact ⟨k+1,by omega,by omega,by rw[hw];exact AV.le_refl _,Store.sub_refl _⟩
 ·obtain rfl:k=s.n:=by omega
  simp
theorem wrap_neg {n:Nat} (h:0<n):wrap n (-1)=n-1:=by
 have:=wrap_pred h h
 have e:(((0:Nat):Int)-1)= -1:=rfl
 rw[e] at this
 rw[this,Nat.zero_add,Nat.mod_eq_of_lt (by omega)]
theorem fnext0_calls {q r:Nat} {s:Sp} {σ:Store} (h:Prg σ q r s):ACalls Tryz.prog 73 [ptrA q, .lit (.int .i64 (-1))] σ fun v σ'=>v= .lit (.int .i64 (nextS s (s.n-1)))∧σ'=σ:=by
 have hsz:=fun τ (hτ:Prg τ q r s)=>size_calls hτ
 have hw:=fun τ=>swrap_calls s (-1) τ
 have hpos:=s.n_pos
 rw[wrap_neg hpos] at hw
 refine aw st73 pl73 11 Tryz.func73 rfl ?_
 simp
 refine callK.of (hsz _ h) ?_
 rintro v σ' ⟨rfl,rfl⟩
 simp
 refine callK.of (hw _) ?_
 rintro v σ' ⟨rfl,rfl⟩
 simp
 refine callK.of (find_calls h (by omega)) ?_
 rintro v σ' ⟨rfl,rfl⟩
 simp
theorem places_length' (l:List Cell) (a:Nat):(Sp.places l a).length=Sp.len l a:=by simp[Sp.places]
theorem places_get' (l:List Cell) (a k:Nat) (h:k<(Sp.places l a).length):(Sp.places l a)[k]=(a+k+1) % l.length:=by simp[Sp.places]
def nullP (t:Sp) (a j:Nat):Sp:=nullS t ((Sp.places t.cells a).take j)
theorem nullP_succ (t:Sp) (a j:Nat) (h:j<Sp.len t.cells a) (hl:t.cells.length=t.n):nullP t a (j+1)=(nullP t a j).put (((a+j+1) % t.n:Nat):Int) 0:=by
 have hj:j<(Sp.places t.cells a).length:=by rw[places_length'];exact h
 unfold nullP nullS
 rw[List.take_succ_eq_append_getElem hj,List.foldl_append,places_get',hl];rfl
theorem nullP_all (t:Sp) (a:Nat):nullP t a (Sp.len t.cells a)=nullS t (Sp.places t.cells a):=by
 unfold nullP;rw[←places_length',List.take_length]
theorem fam_null {t:Sp} (h:t.good) (a:Nat):Fam (nullP t a):=⟨fun _k=>(keep_null h _).same.1,fun _k=>(keep_null h _).same.n,fun _k i=>(keep_null h _).attr i⟩
theorem unprotected_calls {q r:Nat} {s:Sp} {σ:Store} (h:Prg σ q r s):ACalls Tryz.prog 39 [ptrA q] σ fun v σ'=>v= .tuple []∧σ'=putS spO σ q r (unprotS s):=by
 have hfo:=fun τ (hτ:Prg τ q r s)=>formatted_calls hτ
 by_cases hc:s.count=0
 ·have hna:=fun τ (hτ:Prg τ q r s)=>nullall_calls hτ
  have hkp:=keep_null h.good (List.range s.n)
  have hpl:=fun τ (hτ:Prg τ q r (nullS s (List.range s.n)))=>place_calls hτ 0
  unfold unprotS
  rw[if_pos hc]
  refine ACalls.of_awpY follows (st:=st39) (plans:=pl39) (n:=42) Tryz.func39 rfl (by kernel_rfl) (by kernel_rfl) (by kernel_rfl) ?_
  simp
  intro b hb
  have hb0:=h.fresh hb
  refine callK.of (hfo _ (h.new hb _)) ?_
  rintro v σ' ⟨rfl,rfl⟩
  simp[hc]
  refine callK.of (hna _ (h.new hb _)) ?_
  rintro v σ2 ⟨rfl,rfl⟩
  have hL:=((Lv.refl h).new hb [ptrA q]).put hkp.same.1
  have hbv:putS spO (σ.upd b [ptrA q]) q r (nullS s (List.range s.n)) b=some [ptrA q]:=by rw[putS_at hb0.2.2.1 hb0.2.2.2];simp
  simp[hbv]
  refine callK.of (hpl _ hL.prg) ?_
  rintro v σ3 ⟨rfl,rfl⟩
  simp
  exact (hL.put (hkp.same.1.place 0)).sub
 ·have hfc:=fun τ=>fields_calls2 q τ
  have hfam:=fam_unprot h.good
  have hz0:unprotTo s 0=s:=rfl
  have hat0:(unprotTo s 0).attrs=s.attrs:=rfl
  have hall:unprotTo s s.attrs.length=s.attrs.foldl unprot1 s:=by unfold unprotTo;rw[List.take_length]
  unfold unprotS
  rw[if_neg hc,←hall]
  have hc':0<s.count:=by omega
  refine ACalls.of_awpY follows (st:=st39) (plans:=pl39) (n:=42) Tryz.func39 rfl (by kernel_rfl) (by kernel_rfl) (by kernel_rfl) ?_
  simp
  intro b hb
  have hb0:=h.fresh hb
  refine callK.of (hfo _ (h.new hb _)) ?_
  rintro v σ' ⟨rfl,rfl⟩
  simp[hc']
  refine callK.of (hfc _) ?_
  rintro v σ2 ⟨b2,f2,rfl,rfl⟩
  simp only[supd_apply,ite_none] at f2
  have g2:=h.fresh f2.2
  simp
  refine codeYK.rangeG follows (st:=st39) (plans:=pl39) (fields_iterF b2 q r (unprotTo s) hfam _) (by simp) (by simp) (by simp) (by kernel_rfl) (by kernel_rfl) (by kernel_rfl)
   (fun k ρ E=>Lv σ ρ q r (unprotTo s k)∧ρ b=some [ptrA q]∧ρ b2=some [ptrA q]) (fun c ρ E=>False)
   _ ⟨?_, ?_, ?_⟩ (Store.sub_refl _) ?_ ?_ ?_ ?_
  ·rw[hz0]
   exact ((Lv.refl h).new hb [ptrA q]).new (b:=b2) (by simp[f2]) [ptrA q]
  ·simp[Ne.symm f2.1]
  ·simp
  ·rintro k ρ E hk ⟨hL,_,h2⟩
   exact ⟨h2,hL.prg⟩
  ·rintro k hk ρ E ⟨hL,hρb,hρ2⟩
   rw[hat0] at hk
   have hkp:=keep_unprotTo h.good k
   have hsucc:=unprotTo_succ s k hk
   obtain ⟨m1,m2⟩:=attr_mem h.good _ (List.getElem_mem hk)
   have hget:(unprotTo s 0).attrs[k]?.getD 0=s.attrs[k]:=by rw[hat0,List.getElem?_eq_getElem hk];rfl
   have ha1:(atFldF (unprotTo s) k).1=s.attrs[k]:=hget
   have ha2:(atFldF (unprotTo s) k).2=fldAt (unprotTo s k) s.attrs[k]:=by unfold atFldF fldAt;rw[hget]
   rw[ha1,ha2,hsucc]
   generalize s.attrs[k]=a at*
   generalize unprotTo s k=t at*
   have m3:a<t.n:=by rw[hkp.same.n];exact m1
   have m4:attrAt t.cells a=true:=by rw[hkp.attr];exact m2
   have htg:=hkp.same.1
   have hun:unprot1 t a=if (fldAt t a).prot=true then t else unmod1 (nullS t (Sp.places t.cells a)) a:=rfl
   rw[hun]
   have hfa:∀f:Fld,fldA f= .agg [.lit (.bool f.prot), .lit (.bool f.num), .lit (.int .i64 f.disp), .lit (.bool f.mod)]:=fun _=>rfl
   rw[hfa]
   generalize fldAt t a=f at*
   by_cases hpr:f.prot=true
   ·rw[hpr]
    simp
    intro t3 ht3
    have k1:¬b=t3:=by rintro rfl;rw[hρb] at ht3;cases ht3
    have k2:¬b2=t3:=by rintro rfl;rw[hρ2] at ht3;cases ht3
    exact ⟨_,Store.sub_refl _,hL.new ht3 _,by simp[k1,hρb],by simp[k2,hρ2]⟩
   ·have hpr':f.prot=false:=by simpa using hpr
    rw[hpr']
    simp
    intro t3 ht3
    have k1:¬b=t3:=by rintro rfl;rw[hρb] at ht3;cases ht3
    have k2:¬b2=t3:=by rintro rfl;rw[hρ2] at ht3;cases ht3
    simp[k1,hρb]
    have hL1:=hL.new ht3 [.lit (.bool false), .lit (.bool f.num), .lit (.int .i64 f.disp), .lit (.bool f.mod)]
    have c1:(ρ.upd t3 [.lit (.bool false), .lit (.bool f.num), .lit (.int .i64 f.disp), .lit (.bool f.mod)]) b=some [ptrA q]:=by simp[k1,hρb]
    have c2:(ρ.upd t3 [.lit (.bool false), .lit (.bool f.num), .lit (.int .i64 f.disp), .lit (.bool f.mod)]) b2=some [ptrA q]:=by simp[k2,hρ2]
    have hsubρ:Store.sub ρ (ρ.upd t3 [.lit (.bool false), .lit (.bool f.num), .lit (.int .i64 f.disp), .lit (.bool f.mod)]):=Store.sub_upd ht3 (Store.sub_refl _)
    have c3:(ρ.upd t3 [.lit (.bool false), .lit (.bool f.num), .lit (.int .i64 f.disp), .lit (.bool f.mod)]) t3=some [.lit (.bool false), .lit (.bool f.num), .lit (.int .i64 f.disp), .lit (.bool f.mod)]:=by simp
    generalize ρ.upd t3 [.lit (.bool false), .lit (.bool f.num), .lit (.int .i64 f.disp), .lit (.bool f.mod)]=ρ1 at*
    refine callK.of (places_calls2 q (a:Int) _) ?_
    rintro v σ2 ⟨pb,pc,hpb,hpc,hne,rfl,rfl⟩
    have gpb:=hL1.prg.fresh hpb
    have gpc:=hL1.prg.fresh hpc
    have n1:¬b=pb:=by rintro rfl;rw[c1] at hpb;cases hpb
    have n2:¬b=pc:=by rintro rfl;rw[c1] at hpc;cases hpc
    have n3:¬b2=pb:=by rintro rfl;rw[c2] at hpb;cases hpb
    have n4:¬b2=pc:=by rintro rfl;rw[c2] at hpc;cases hpc
    have hfn:=fam_null htg a
    have hnz:nullP t a 0=t:=rfl
    have hln:=htg.len
    simp
    refine codeYK.rangeG follows (st:=st39) (plans:=pl39) (places_iterF pb pc q r (nullP t a) hfn a m3 m4 _) (by simp) (by simp) (by simp) (by kernel_rfl) (by kernel_rfl) (by kernel_rfl)
     (fun j ρ E=>Lv σ ρ q r (nullP t a j)∧ρ b=some [ptrA q]∧ρ b2=some [ptrA q]∧ρ pb=some [ptrA q]∧ρ pc=some [.lit (.int .i64 a)]) (fun c ρ E=>False)
     _ ⟨?_, ?_, ?_, ?_, ?_⟩ (Store.sub_refl _) ?_ ?_ ?_ ?_
    ·rw[hnz]
     exact (hL1.new hpb [ptrA q]).new (b:=pc) (by simp[Ne.symm hne,hpc]) [.lit (.int .i64 a)]
    ·simp[n1,n2,c1]
    ·simp[n3,n4,c2]
    ·simp[hne]
    ·simp
    ·rintro j ρ E hj ⟨hLj,_,_,h4,h5⟩
     exact ⟨h4,h5,hLj.prg⟩
    ·rintro j hj ρ E ⟨hLj,h1,h2,h4,h5⟩
     have hj':j<Sp.len t.cells a:=hj
     have hsu:=nullP_succ t a j hj' hln
     have hgj:=hfn.good j
     have hnj:(nullP t a 0).n=t.n:=rfl
     rw[hnj,hsu]
     generalize (a+j+1) % t.n=m at*
     generalize nullP t a j=u at*
     have hpu:=pput_calls hLj.prg (m:Int) 0
     simp[h1]
     refine callK.of hpu ?_
     rintro v σ3 ⟨rfl,rfl⟩
     simp
     refine ⟨_,Store.sub_refl _,hLj.put (hgj.put _ _), ?_, ?_, ?_, ?_⟩
     ·rw[putS_at hb0.2.2.1 hb0.2.2.2];exact h1
     ·rw[putS_at g2.2.2.1 g2.2.2.2];exact h2
     ·rw[putS_at gpb.2.2.1 gpb.2.2.2];exact h4
     ·rw[putS_at gpc.2.2.1 gpc.2.2.2];exact h5
    ·rintro ρ2 E2 σ2 hs2 ⟨hLj,h1,h2,_,_⟩
     have hend:nullP t a (Sp.len (nullP t a 0).cells a)=nullS t (Sp.places t.cells a):=nullP_all t a
     rw[hend] at hLj
     have hL2:=hLj.mono hs2
     have j1:=sub_at h1 hs2
     have j2:=sub_at h2 hs2
     have hkn:=keep_null htg (Sp.places t.cells a)
     generalize nullS t (Sp.places t.cells a)=u at*
     have hat:=fun τ (hτ:Prg τ q r u)=>at_calls hτ (a:Int)
     have hse:=fun τ (hτ:Prg τ q r u)=>set_calls hτ (a:Int) (clr (u.at (a:Int)))
     have hk2:=keep_unmod1 hkn.same.1 (a:=a) (by rw[hkn.same.n];exact m3) (by rw[hkn.attr];exact m4)
     have hun2:unmod1 u a=u.set (a:Int) (clr (u.at (a:Int))):=rfl
     rw[hun2] at hk2⊢
     generalize hcc:u.at (a:Int)=c at*
     have hcl:cellA (clr c)= .agg [byteA c.char, .lit (.bool c.attr),byteA (c.fa&&&0xfe),byteA c.high,byteA c.color,byteA c.set]:=rfl
     rw[cellA_eq c] at hat
     rw[hcl] at hse
     have e1:=byteA_lit c.fa
     have e2:=byteA_lit (c.fa&&&0xfe)
     have han:=andNot1 c.fa
     rw[e1] at hat
     rw[e2] at hse
     simp[j1]
     refine callK.of (hat _ hL2.prg) ?_
     rintro v σ3 ⟨rfl,rfl⟩
     simp[-e_pureBin_11,han]
     intro t5 ht5
     have k3:¬b=t5:=by rintro rfl;rw[j1] at ht5;cases ht5
     have k4:¬b2=t5:=by rintro rfl;rw[j2] at ht5;cases ht5
     simp[k3,j1]
     refine callK.of (hse _ (hL2.new ht5 _).prg) ?_
     rintro v σ4 ⟨rfl,rfl⟩
     simp
     refine ⟨_,Store.sub_refl _,(hL2.new ht5 _).put hk2.same.1, ?_, ?_⟩
     ·rw[putS_at hb0.2.2.1 hb0.2.2.2];simp[k3,j1]
     ·rw[putS_at g2.2.2.1 g2.2.2.2];simp[k4,j2]
    ·rintro c ρ E2 σ2 hs2 hF
     exact hF.elim
  ·rintro ρ E2 σ2 hs2 ⟨hL,h1,_⟩
   rw[hat0] at hL
   have hL2:=hL.mono hs2
   have j1:=sub_at h1 hs2
   have hnn:(unprotTo s s.attrs.length).n=s.n:=(keep_unprotTo h.good _).same.n
   generalize unprotTo s s.attrs.length=t at*
   have hnx:=fun τ (hτ:Prg τ q r t)=>fnext0_calls hτ
   have hpl:=fun τ (hτ:Prg τ q r t)=>place_calls hτ (max (nextS t (t.n-1)) 0)
   have hmx:max (nextS t (t.n-1)) 0=if nextS t (t.n-1)<0 then 0 else nextS t (t.n-1):=by split<;>omega
   rw[hmx] at hpl
   rw[←hnn,hmx]
   have hgood:=hL2.prg.good
   simp[j1]
   refine ⟨?_, ?_⟩
   all_goals
    refine callK.of (hnx _ hL2.prg) ?_
    rintro v σ3 ⟨rfl,rfl⟩
    simp[j1]
    refine callK.of (hpl _ hL2.prg) ?_
    rintro v σ4 ⟨rfl,rfl⟩
    simp
    exact (hL2.put (hgood.place _)).sub
  ·rintro c ρ E2 σ2 hs2 hF
   exact hF.elim
def cmdF (b:UInt8):Nat×Bool:=match cmdNames.findIdx? (fun x=>x.2.1==b||x.2.2==b) with
 |some i=>(i,true)
 |none=>(0,false)
def cmdX (k:Nat):List UInt8×UInt8×UInt8:=cmdNames[k]?.getD ([],0,0)
def cmdHit (k:Nat) (b:UInt8):Bool:=(cmdX k).2.1==b||(cmdX k).2.2==b
theorem cmd_drop:∀k,k<9→(cmdsO.drop (k*3)).take 3=cmdC (cmdX k)
 |0,_=>rfl
 |1,_=>rfl
 |2,_=>rfl
 |3,_=>rfl
 |4,_=>rfl
 |5,_=>rfl
 |6,_=>rfl
 |7,_=>rfl
 |8,_=>rfl
 |k+9,h=>by omega
theorem cmd_drop1:cmdsO.map AV.drop1=cmdsO:=rfl
theorem cmd_mk:mkAV true (cmdsO.take 27)=some (.agg cmdsO):=rfl
theorem cmd_len:27≤cmdsO.length:=by decide
theorem cmdF_hit (b:UInt8) (k:Nat) (hk:k<9) (h:∀i,i<k→cmdHit i b=false) (hh:cmdHit k b=true):cmdF b=(k,true):=by
 have:cmdNames.findIdx? (fun x=>x.2.1==b||x.2.2==b)=some k:=by
  rw[List.findIdx?_eq_some_iff_getElem]
  have hl:cmdNames.length=9:=rfl
  refine ⟨by omega, ?_, ?_⟩
  ·have:cmdX k=cmdNames[k]'(by omega):=by unfold cmdX;rw[List.getElem?_eq_getElem (by omega)];rfl
   rw[←this];exact hh
  ·intro j hj
   have h2:=h j hj
   have:cmdX j=cmdNames[j]'(by omega):=by unfold cmdX;rw[List.getElem?_eq_getElem (by omega)];rfl
   rw[←this];unfold cmdHit at h2;simp[h2]
 unfold cmdF;rw[this]
theorem cmdF_none (b:UInt8) (h:∀i,i<9→cmdHit i b=false):cmdF b=(0,false):=by
 have:cmdNames.findIdx? (fun x=>x.2.1==b||x.2.2==b)=none:=by
  rw[List.findIdx?_eq_none_iff]
  intro x hx
  obtain ⟨i,hi,rfl⟩:=List.getElem_of_mem hx
  have h2:=h i hi
  have:cmdX i=cmdNames[i]:=by unfold cmdX;rw[List.getElem?_eq_getElem hi];rfl
  rw[←this];exact h2
 unfold cmdF;rw[this]
theorem command_calls (b:UInt8) (σ:Store):ACalls Tryz.prog 37 [byteA b] σ fun v σ'=>v= .tuple [.lit (.int .i64 (cmdF b).1), .lit (.bool (cmdF b).2)]∧σ'=σ:=by
 refine aw st37 pl37 23 Tryz.func37 rfl ?_
 simp[cmd_len,cmd_mk,cmd_drop1]
 refine codeK.loop follows (st:=st37) (plans:=pl37) (X:=Nat) (fun k=>k≤9∧∀i,i<k→cmdHit i b=false)
  (fun k=>[(0,byteA b),(6, .agg cmdsO),(7, .lit (.int .i64 k))]) (fun _=>σ) (fun k=>9-k) 0 (by kernel_rfl) (by simp) (by simp) (Store.sub_refl _) fun k hk=> ?_
 obtain ⟨hk9,hk⟩:=hk
 by_cases hlt:k<9
 ·have hw:IntKind.i64.wrap ((k:Int)+1)=((k+1:Nat):Int):=wrap_i64 (by omega) (by omega)
  have hd:=cmd_drop k hlt
  have hlt':(k:Int)<9:=by omega
  have hb2:=b.toNat_lt
  have hhit:cmdHit k b=((cmdX k).2.1==b||(cmdX k).2.2==b):=rfl
  have huu:∀u:UInt8,((u.toNat:Int)=(b.toNat:Int))↔u=b:=fun u=>
   ⟨fun h=>UInt8.toNat_inj.mp (by omega),fun h=>by rw[h]⟩
  have hx1:=huu (cmdX k).2.1
  have hx2:=huu (cmdX k).2.2
  by_cases h1:(cmdX k).2.1=b
  ·have hh:cmdHit k b=true:=by rw[hhit];simp[h1]
   have hx1:=hx1.mpr h1
   rw[cmdF_hit b k hlt hk hh]
   generalize (cmdX k)=x at*
   simp[hlt',hd,cmdC,byteA_lit,hx1]
   exact fun p hp=>Store.sub_upd hp (Store.sub_refl _)
  have hx1:¬(((cmdX k).2.1.toNat:Int)=(b.toNat:Int)):=fun h=>h1 (hx1.mp h)
  by_cases h2:(cmdX k).2.2=b
  ·have hh:cmdHit k b=true:=by rw[hhit];simp[h2]
   have hx2:=hx2.mpr h2
   rw[cmdF_hit b k hlt hk hh]
   generalize (cmdX k)=x at*
   simp[hlt',hd,cmdC,byteA_lit,hx1,hx2]
   exact fun p hp=>Store.sub_upd hp (Store.sub_refl _)
  ·have hx2:¬(((cmdX k).2.2.toNat:Int)=(b.toNat:Int)):=fun h=>h2 (hx2.mp h)
   have hh:cmdHit k b=false:=by rw[hhit];simp[h1,h2]
   generalize (cmdX k)=x at*
   simp[hlt',hd,cmdC,byteA_lit,hx1,hx2,hw]
   intro p hp
   refine ⟨k+1,⟨by omega,fun i hi=> ?_⟩,by omega,AV.le_refl _,Store.sub_upd hp (Store.sub_refl _)⟩
   by_cases hik:i=k
   ·rw[hik];exact hh
   ·exact hk i (by omega)
 ·have h9:k=9:=by omega
  subst h9
  rw[cmdF_none b hk]
  simp
end Go.Proofs.YtjnopnpkfhopbaaGreatDoor
