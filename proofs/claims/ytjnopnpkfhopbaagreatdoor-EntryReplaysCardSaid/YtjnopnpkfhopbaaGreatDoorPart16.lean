/-
 A screen and the document's, made alike.
-/
import Derived.Test.YtjnopnpkfhopbaaGreatDoorPart15
set_option linter.unusedSimpArgs false
set_option linter.unusedVariables false
set_option maxRecDepth 8000
set_option maxHeartbeats 8000000
namespace Go.Proofs.YtjnopnpkfhopbaaGreatDoor
open Go Go.AL Go.Sp
theorem byteA_lit (b:UInt8):byteA b= .lit (.int .u8 b.toNat):=rfl
theorem eqLits_cell (c d:Cell):eqLits [.int, .bool, .int, .int, .int, .int] [byteA c.char, .lit (.bool c.attr),byteA c.fa,byteA c.high,byteA c.color,byteA c.set]
  [byteA d.char, .lit (.bool d.attr),byteA d.fa,byteA d.high,byteA d.color,byteA d.set]=some (decide (c=d)):=by
 obtain ⟨a1,a2,a3,a4,a5,a6⟩:=c
 obtain ⟨b1,b2,b3,b4,b5,b6⟩:=d
 have h:∀x y:UInt8,((x.toNat:Int)==(y.toNat:Int))=decide (x=y):=fun x y=>by rw[byte_eq];rfl
 simp only[byteA_lit]
 simp[h]
 rw[Bool.eq_iff_iff]
 simp
theorem eqLits_zero (c:Cell):eqLits [.int, .bool, .int, .int, .int, .int] [byteA c.char, .lit (.bool c.attr),byteA c.fa,byteA c.high,byteA c.color,byteA c.set]
  [.lit (.int .u8 0), .lit (.bool false), .lit (.int .u8 0), .lit (.int .u8 0), .lit (.int .u8 0), .lit (.int .u8 0)]=some (decide (c= .zero)):=eqLits_cell c .zero
def actsA (l:List Sp.Act):List AV:=l.map actA
@[simp] theorem actsA_length (l:List Sp.Act):(actsA l).length=l.length:=by simp[actsA]
theorem actsA_at (l:List Sp.Act) (i:Nat) (h:i<l.length):(actsA l)[i]'(by simpa using h)=actA l[i]:=by simp[actsA]
def upTo (s:Sp) (j:Nat):Sp:= {s with cells:=s.cells.take j++List.replicate (s.n-j) .zero,cursor:=0}
theorem upTo_len {s:Sp} (h:s.good) {j:Nat} (hj:j≤s.n):(upTo s j).cells.length=s.n:=by
 simp[upTo,h.len];omega
theorem upTo_good {s:Sp} (h:s.good) {j:Nat} (hj:j≤s.n):(upTo s j).good:=by
 refine ⟨h.model,upTo_len h hj,s.n_pos,fun c hc=> ?_⟩
 simp only[upTo,List.mem_append,List.mem_replicate] at hc
 rcases hc with hc|⟨_,rfl⟩
 ·exact h.fit c (List.mem_of_mem_take hc)
 ·exact fitted_zero
theorem upTo_next {s:Sp} (h:s.good) {j:Nat} (hj:j<s.n) (hjc:j<s.cells.length):(upTo s (j+1))=(upTo s j).set j s.cells[j]:=by
 have hf:Sp.fit s.cells[j]=s.cells[j]:=h.fit _ (List.getElem_mem hjc)
 have hw:wrap (upTo s j).n (j:Int)=j:=wrap_of_lt hj
 simp only[Sp.set,hw,hf,Sp.put1]
 simp only[upTo]
 congr 1
 rw[List.take_succ_eq_append_getElem hjc,show s.n-j=(s.n-(j+1))+1 by omega,List.replicate_succ]
 have hl:(s.cells.take j).length=j:=by simp;omega
 rw[List.set_append_right _ _ (by omega),hl]
 simp only[List.append_assoc,Nat.sub_self,List.set_cons_zero,List.singleton_append]
theorem upTo_same {s:Sp} {j:Nat} (_h:s.good) (hj:j<s.n) (hjc:j<s.cells.length) (hz:s.cells[j]= .zero):upTo s (j+1)=upTo s j:=by
 simp only[upTo]
 congr 1
 rw[List.take_succ_eq_append_getElem hjc,show s.n-j=(s.n-(j+1))+1 by omega,List.replicate_succ,hz]
 simp only[List.append_assoc,List.singleton_append]
theorem upTo_all {s:Sp} (h:s.good):(upTo s s.n).place s.cursor=s:=by
 have hc:wrap (upTo s s.n).n (s.cursor:Int)=s.cursor:=wrap_of_lt h.cursor
 obtain ⟨m,a,l,c⟩:=s
 simp only[Sp.place,hc]
 simp only[upTo]
 have:l.take (Sp.n ⟨m,a,l,c⟩)=l:=List.take_of_length_le (by have:=h.len;simp at this;omega)
 simp[this]
theorem upTo_zero (s:Sp):upTo s 0=Sp.clear ⟨s.model,false,[],0⟩ s.alt:=by simp[upTo,Sp.clear,Sp.n,Sp.rows,Sp.cols]
structure Four (σ:Store) (q p x y:Nat):Prop where
 q0:σ q=none
 p0:σ p=none
 x0:σ x=none
 y0:σ y=none
 qp:q≠p
 qx:q≠x
 qy:q≠y
 px:p≠x
 py:p≠y
 xy:x≠y
def both (σ:Store) (q p x y:Nat) (s t:Sp):Store:=putS spO (putS rfO σ x y t) q p s
theorem both_ref {σ:Store} {q p x y:Nat} {s t:Sp} (h:Four σ q p x y) (hg:t.good):Ref (both σ q p x y s t) x y t:=
 ⟨by simp[both,putS,h.xy,Ne.symm h.qx,Ne.symm h.px],by simp[both,putS,Ne.symm h.qy,Ne.symm h.py],h.xy,hg⟩
theorem both_prg {σ:Store} {q p x y:Nat} {s t:Sp} (h:Four σ q p x y) (hg:s.good):Prg (both σ q p x y s t) q p s:=Scr.of_put h.qp hg
def LayR (σ:Store) (s:Sp) (v:AV) (σ':Store):Prop:=∃q p x y,v= .tuple [ptrA q,ptrA x]∧Four σ q p x y∧σ'=both σ q p x y s s
theorem lays_step (m:UInt8) (l:List Sp.Act) (i:Nat) (h:i<l.length) (h2:i<30):((l.take 30).take (i+1)).foldl Sp.act (Sp.new (2+m.toNat % 4))=(((l.take 30).take i).foldl Sp.act (Sp.new (2+m.toNat % 4))).act l[i]:=by
 have h3:i<(l.take 30).length:=by simp;omega
 rw[List.take_succ_eq_append_getElem h3,List.foldl_append];simp
theorem foldl_model:∀(l:List Sp.Act) (s:Sp),(l.foldl Sp.act s).model=s.model
 |[],_=>rfl
 |a::l,s=>(foldl_model l (s.act a)).trans (s.model_act a)
def NeedS (b q p:Nat) (s:Sp) (_k:Nat) (τ:Store):Prop:=τ b=some [ptrA q]∧Prg τ q p s
theorem prg_mono {σ τ:Store} {q p:Nat} {s:Sp} {f:Sp→Nat→List AV} (h:Scr f τ q p s) (hs:Store.sub τ σ):Scr f σ q p s:=by
 refine ⟨?_, ?_,h.ne,h.good⟩
 ·rcases hs q with h'|h'
  ·rw[h.obj] at h';cases h'
  ·rw[←h',h.obj]
 ·rcases hs p with h'|h'
  ·rw[h.row] at h';cases h'
  ·rw[←h',h.row]
theorem sub_at {σ τ:Store} {b:Nat} {x:List AV} (h:τ b=some x) (hs:Store.sub τ σ):σ b=some x:=by
 rcases hs b with h'|h'
 ·rw[h] at h';cases h'
 ·rw[←h',h]
theorem needS_mono {b q p:Nat} {s:Sp} {k:Nat} {τ τ':Store} (h:NeedS b q p s k τ) (hs:Store.sub τ τ'):NeedS b q p s k τ':=
 ⟨sub_at h.1 hs,prg_mono h.2 hs⟩
theorem all_calls2 (q:Nat) (σ:Store):ACalls Tryz.prog 25 [ptrA q] σ fun v σ'=>∃b:Nat,σ b=none∧v= .func (.func 52) [] [ptrA b]∧σ'=σ.upd b [ptrA q]:=by
 refine aw st25 pl25 4 Tryz.func25 rfl ?_
 simp
 exact fun b hb=>⟨_,AV.le_refl _,_,Store.sub_refl _,b,hb,rfl,rfl⟩
theorem all_iter (b q p:Nat) (s:Sp) (σ:Store):IterG Tryz.prog 52 [ptrA b] σ s.n (NeedS b q p s) fun k _=>[.lit (.int .i64 (k:Nat)),cellA (s.at k)]:=by
 refine ⟨fun k τ τ' h hs=>⟨needS_mono h hs,rfl⟩,fun X l I J hneed hy τ E h0 hs=> ?_⟩
 obtain ⟨hb,hP⟩:=needS_mono (hneed 0 τ E (Nat.zero_le _) h0) hs
 have hsz:=size_calls hP
 have hcl:=scells_calls s
 have hn:=s.n_le
 refine ACallsY.of_awp follows (st:=st52) (plans:=pl52) (n:=18) Tryz.func52 rfl (by kernel_rfl) (by kernel_rfl) (by kernel_rfl) ?_
 simp[hb]
 refine callK.of hsz ?_
 rintro v σ' ⟨rfl,rfl⟩
 simp
 refine callK.of (hcl _) ?_
 rintro v σ' ⟨rfl,rfl⟩
 simp
 refine codeYK.loop follows (st:=st52) (plans:=pl52) (S:=Nat×Store) (fun x=>x.1≤s.n)
  (fun x=>[(0, .func (.yield l) [] []),(1,ptrA b),(6, .lit (.int .i64 s.n)),(7, .lit (.int .i64 x.1))]) (fun x=>x.2) (fun x E=>I x.1 x.2 E) (fun x=>s.n-x.1) (0,τ) (by kernel_rfl) (by simp) (by simp) hs h0 ?_
 rintro ⟨k,τ1⟩ E1 hk hI
 dsimp only at hk hI⊢
 obtain ⟨hb1,hP1⟩:=hneed k τ1 E1 hk hI
 by_cases hlt:k<s.n
 ·have hat:=at_calls hP1 (k:Int)
  have hw:IntKind.i64.wrap ((k:Int)+1)=((k+1:Nat):Int):=wrap_i64 (by omega) (by omega)
  have hyk:=hy k hlt τ1 E1 hI
  simp only[cellA_eq] at hat hyk
  simp[hlt,hb1]
  refine callK.of hat ?_
  rintro v σ' ⟨rfl,rfl⟩
  simp
  refine yieldK.of (by simp) hyk (Store.sub_refl _) ?_
  intro b2 τ' E' hR hap
  cases b2
  ·simp
   exact ⟨⟨_,AV.le_refl _⟩,_,Store.sub_over _ _ _,τ',Store.sub_refl _, .inr (by simpa using hR)⟩
  ·simp
   refine ⟨k+1,by omega,by omega,by rw[hw];exact AV.le_refl _,τ',Store.sub_over _ _ _,by simpa using hR⟩
 ·obtain rfl:k=s.n:=by omega
  simp
  exact ⟨⟨_,AV.le_refl _⟩,_,Store.sub_refl _,τ1,Store.sub_refl _, .inl hI⟩
theorem filter_at {α:Type} (P:α→Bool) (xs:List α) (k:Nat) (h:k<xs.length):(xs.take (k+1)).filter P=(xs.take k).filter P++(if P xs[k]=true then [xs[k]] else [])∧(P xs[k]=true→(xs.filter P)[((xs.take k).filter P).length]?=some xs[k]):=by
 refine ⟨?_,fun hp=> ?_⟩
 ·rw[List.take_succ_eq_append_getElem h,List.filter_append]
  congr 1
  simp only[List.filter_cons,List.filter_nil]
 ·have e:xs=xs.take k++(xs[k]::xs.drop (k+1)):=by rw[←List.drop_eq_getElem_cons h,List.take_append_drop]
  conv=>lhs;rw[e]
  rw[List.filter_append,List.filter_cons_of_pos hp]
  have e2:((List.take k (xs.take k++xs[k]::xs.drop (k+1))).filter P).length=((xs.take k).filter P).length:=by rw[←e]
  rw[e2,List.getElem?_append_right (Nat.le_refl _),Nat.sub_self];rfl
def cntP {α:Type} (P:α→Bool) (xs:List α) (k:Nat):Nat:=((xs.take k).filter P).length
theorem cntP_zero {α:Type} (P:α→Bool) (xs:List α):cntP P xs 0=0:=by simp[cntP]
theorem cntP_all {α:Type} (P:α→Bool) (xs:List α):cntP P xs xs.length=(xs.filter P).length:=by simp[cntP]
theorem cntP_yes {α:Type} {P:α→Bool} {xs:List α} {k:Nat} (h:k<xs.length) (hp:P xs[k]=true):cntP P xs (k+1)=cntP P xs k+1∧cntP P xs k<(xs.filter P).length∧(xs.filter P)[cntP P xs k]?=some xs[k]:=by
 obtain ⟨h1,h2⟩:=filter_at P xs k h
 have h2:=h2 hp
 refine ⟨?_,(List.getElem?_eq_some_iff.1 h2).1,h2⟩
 rw[cntP,h1,if_pos hp];simp[cntP]
theorem cntP_no {α:Type} {P:α→Bool} {xs:List α} {k:Nat} (h:k<xs.length) (hp:P xs[k]=false):cntP P xs (k+1)=cntP P xs k:=by
 obtain ⟨h1,_⟩:=filter_at P xs k h
 rw[cntP,h1,if_neg (by simp[hp])];simp[cntP]
def isAt (s:Sp) (i:Nat):Bool:=(s.cells[i]?.getD .zero).attr
theorem attrs_eq (s:Sp) (h:s.good):s.attrs=(List.range s.n).filter (isAt s):=by rw[←h.len];rfl
theorem at_of {s:Sp} (_h:s.good) {i:Nat} (hi:i<s.n):s.at (i:Int)=s.cells[i]?.getD .zero:=by
 unfold Sp.at;rw[wrap_of_lt hi]
theorem attrs_calls2 (q:Nat) (σ:Store):ACalls Tryz.prog 99 [ptrA q] σ fun v σ'=>∃b:Nat,σ b=none∧v= .func (.func 111) [] [ptrA b]∧σ'=σ.upd b [ptrA q]:=by
 refine aw st99 pl99 4 Tryz.func99 rfl ?_
 simp
 exact fun b hb=>⟨_,AV.le_refl _,_,Store.sub_refl _,b,hb,rfl,rfl⟩
structure Beside (τ ρ:Store) (b2 y:Nat) (f g:AV):Prop where
 b0:τ b2=none
 y0:τ y=none
 ne:b2≠y
 eq:ρ=(τ.upd b2 [f]).upd y [g]
theorem Beside.sub {τ ρ:Store} {b2 y:Nat} {f g:AV} (h:Beside τ ρ b2 y f g):Store.sub τ ρ:=by
 rw[h.eq]
 exact Store.sub_upd h.y0 (Store.sub_upd h.b0 (Store.sub_refl _))
theorem Beside.next {τ ρ τ' cur:Store} {b2 y:Nat} {f g:AV} (h:Beside τ ρ b2 y f g) (hc:Store.sub ρ cur) (hap:Apart τ' τ cur):∃ρ',Store.sub ρ' (Store.over τ' τ cur)∧Beside τ' ρ' b2 y f g:=by
 have c1:cur b2=some [f]:=sub_at (by rw[h.eq];simp[h.ne]) hc
 have c2:cur y=some [g]:=sub_at (by rw[h.eq];simp) hc
 have d1:=hap b2 h.b0 (by rw[c1];simp)
 have d2:=hap y h.y0 (by rw[c2];simp)
 refine ⟨(τ'.upd b2 [f]).upd y [g],Store.sub2 (fun o=> ?_) (fun i=>by simpa using Store.sub_over τ' τ cur (mkey i)),⟨d1,d2,h.ne,rfl⟩⟩
 by_cases h1:o=y
 ·subst h1;right;simp[Store.over,d2,h.y0,c2]
 ·by_cases h2:o=b2
  ·subst h2;right;simp[Store.over,d1,h.b0,c1,h.ne]
  ·simp only[supd_apply,if_neg h1,if_neg h2]
   exact Store.sub_over τ' τ cur o
theorem fld_prg (b:UInt8):((((b&&&32).toNat:Nat):Int) !=0)=(fld b).prot∧((((b&&&16).toNat:Nat):Int) !=0)=(fld b).num∧(b&&&12).toNat/4=(fld b).disp∧((((b&&&1).toNat:Nat):Int) !=0)=(fld b).mod:=
 all_bytes (p:=fun b=>((((b&&&32).toNat:Nat):Int) !=0)=(fld b).prot∧((((b&&&16).toNat:Nat):Int) !=0)=(fld b).num∧(b&&&12).toNat/4=(fld b).disp∧((((b&&&1).toNat:Nat):Int) !=0)=(fld b).mod) (by decide+kernel) b
theorem of_calls (b:UInt8) (σ:Store):ACalls Tryz.prog 103 [byteA b] σ fun v σ'=>v=fldA (fld b)∧σ'=σ:=by
 obtain ⟨h1,h2,h3,h4⟩:=fld_prg b
 rw[fldA,←h1,←h2,←h3,←h4]
 have a1:pureBin .and (.int .u8 (b.toNat:Int)) (.int .u8 32)=some (.int .u8 ((b&&&32).toNat:Int)):=and_u8 b 32
 have a2:pureBin .and (.int .u8 (b.toNat:Int)) (.int .u8 16)=some (.int .u8 ((b&&&16).toNat:Int)):=and_u8 b 16
 have a3:pureBin .and (.int .u8 (b.toNat:Int)) (.int .u8 12)=some (.int .u8 ((b&&&12).toNat:Int)):=and_u8 b 12
 have a4:pureBin .and (.int .u8 (b.toNat:Int)) (.int .u8 1)=some (.int .u8 ((b&&&1).toNat:Int)):=and_u8 b 1
 have hl:=(b&&&12).toNat_lt
 have hw:IntKind.i64.wrap ((b&&&12).toNat:Int)=((b&&&12).toNat:Int):=wrap_i64 (by omega) (by omega)
 have hs:=shr_nat (b&&&12).toNat 2 (by omega)
 have hs':pureBin .shr (.int .i64 ((b&&&12).toNat:Int)) (.int .u64 2)=some (.int .i64 (((b&&&12).toNat/4:Nat):Int)):=hs
 refine aw st103 pl103 17 Tryz.func103 rfl ?_
 generalize (b&&&32).toNat=x1 at*
 generalize (b&&&16).toNat=x2 at*
 generalize (b&&&12).toNat=x3 at*
 generalize (b&&&1).toNat=x4 at*
 simp[-e_pureBin_8, -e_pureBin_2,byteA,a1,a2,a3,a4,hw,hs']
 intro p hp
 (intro q;simp only[Store.upd,Store.del];(repeat' split)<;>first|exact Or.inr rfl|exact Or.inl rfl|(exfalso;omega)|(left;subst_vars;assumption)|simp_all)
theorem fields_calls2 (q:Nat) (σ:Store):ACalls Tryz.prog 70 [ptrA q] σ fun v σ'=>∃b:Nat,σ b=none∧v= .func (.func 102) [] [ptrA b]∧σ'=σ.upd b [ptrA q]:=by
 refine aw st70 pl70 4 Tryz.func70 rfl ?_
 simp
 exact fun b hb=>⟨_,AV.le_refl _,_,Store.sub_refl _,b,hb,rfl,rfl⟩
def pl106t:List (Nat×Plan):=[(3,Plan.tail 7 (Plan.seq [1,2,3] (.alt (Plan.seq [0,4,5,6] (.done)) (Plan.seq [4,5] (.alt (Plan.seq [0,6] (.done)) (Plan.seq [6,0] (.done)))))))]
def atFld (s:Sp) (k:Nat):Nat×Fld:=(s.attrs[k]?.getD 0,fld ((s.cells[s.attrs[k]?.getD 0]?.getD .zero).fa))
def isMod (s:Sp) (a:Nat):Bool:=(fld (s.cells[a]?.getD .zero).fa).mod
theorem places_calls2 (q:Nat) (a:Int) (σ:Store):ACalls Tryz.prog 71 [ptrA q, .lit (.int .i64 a)] σ fun v σ'=>∃(b c:Nat),σ b=none∧σ c=none∧b≠c∧v= .func (.func 104) [] [ptrA b,ptrA c]∧σ'=(σ.upd b [ptrA q]).upd c [.lit (.int .i64 a)]:=by
 refine aw st71 pl71 6 Tryz.func71 rfl ?_
 simp+contextual [ite_free]
 exact fun b hb c h1 h2 hc=>⟨_,AV.le_refl _,_,Store.sub_refl _,b,hb,c,hc,h2,rfl,rfl⟩
def NeedP (b c q p:Nat) (s:Sp) (a:Nat) (_k:Nat) (τ:Store):Prop:=τ b=some [ptrA q]∧τ c=some [.lit (.int .i64 a)]∧Prg τ q p s
theorem wrap_mod {n k:Nat} (_h:0<n):wrap n (k:Int)=k % n:=by
 unfold wrap
 rw[←Int.natCast_emod];rfl
structure Pen where
 s:Sp
 n:Nat
 look:Cell:= .zero
 texts:Bool:=false
def lookW (look:Cell) (code:UInt8) (g:Bool):Cell:= {look with char:=code,set:=if g=true then 0xf1 else look.set}
def Pen.step (p:Pen) (s:Sp):Pen:= {p with s:=s,n:=(p.n+1) % p.s.n}
def Pen.put (p:Pen) (code:UInt8) (g:Bool):Pen:=p.step (p.s.set p.n (lookW p.look code g))
def applyP (c:Cell) (t v:UInt8):Cell:=
 if t.toNat=0 then {c with high:=0,color:=0,set:=0} else if t.toNat=192 then (if c.attr=true then {c with fa:=Sp.six v} else c)
 else if t.toNat=65 then {c with high:=v} else if t.toNat=66 then {c with color:=v} else {c with set:=v}
def appliedS:Cell→List (UInt8×UInt8)→Option Cell
 |c,[]=>some c
 |c,x::l=>if chkE x.1 x.2=0 then appliedS (applyP c x.1 x.2) l else none
def spanLen (N f t:Nat):Nat:=if (t+N-f) % N=0 then N else (t+N-f) % N
def spanL (N f t:Nat):List Nat:=(List.range (spanLen N f t)).map fun i=>(f+i) % N
def fldAt (s:Sp) (a:Nat):Fld:=fld (s.cells[a]?.getD .zero).fa
def openS (s:Sp) (n:Nat):Bool:= !(attrAt s.cells n)&& !(decide (0≤startS s.cells n)&&(fldAt s (startS s.cells n).toNat).prot)
def rangeS (s:Sp) (l:List Nat):Sp:=l.foldl (fun s (n:Nat)=>if openS s n=true then s.put n 0 else s) s
def repeatS (s:Sp) (l:List Nat) (c:Cell):Sp:=l.foldl (fun s (n:Nat)=>s.set n c) s
def firstS (s:Sp) (n:Nat):Bool:=(s.at ((n:Int)-1)).attr&& !(s.at n).attr&& !(fld (s.at ((n:Int)-1)).fa).prot
def nextS (s:Sp) (n:Nat):Int:=match (List.range s.n).find? (fun i=>firstS s ((n+i+1) % s.n)) with
 |some i=>((n+i+1) % s.n:Nat)
 |none=> -1
def nullsL (s:Sp) (n:Nat):List Nat:=((List.range (s.n-n)).map fun i=>n+i).takeWhile fun k=> !attrAt s.cells k
def nullS (s:Sp) (l:List Nat):Sp:=l.foldl (fun s (n:Nat)=>s.put n 0) s
def tabN (s:Sp) (n:Nat):Nat:=if nextS s n>n then (nextS s n).toNat else 0
def Pen.tab (p:Pen):Pen:=let s:=if p.texts=true then nullS p.s (nullsL p.s p.n) else p.s
 {p with s:=s,n:=tabN s p.n}
def Pen.attribute (p:Pen) (c:Cell) (l:List (UInt8×UInt8)):Pen×Nat:=match appliedS c l with
 |some d=>(p.step (p.s.set p.n d),0)
 |none=>(p,10)
def Pen.to (p:Pen) (n:Int):Pen×Nat:=if (p.s.n:Int)≤n then (p,9) else ({p with n:=n.toNat},0)
def Pen.span (p:Pen) (o:Op):Pen×Nat:=if (p.s.n:Int)≤o.addr then (p,9)
 else ({p with s:=if o.kind=18 then rangeS p.s (spanL p.s.n p.n o.addr.toNat) else repeatS p.s (spanL p.s.n p.n o.addr.toNat) (lookW p.look o.code o.graph),n:=o.addr.toNat},0)
def Pen.do (p:Pen) (o:Op):Pen×Nat:=
 if o.kind=0 then (o.text.foldl (fun p c=>p.put c false) p,0)
 else if o.kind=8 then (p.put o.code true,0)
 else if o.kind=17 then p.to o.addr
 else if o.kind=18∨o.kind=60 then p.span o
 else if o.kind=29 then p.attribute {attr:=true,fa:=o.fa} []
 else if o.kind=41 then p.attribute {attr:=true} o.pairs
 else if o.kind=44 then (if (p.s.at p.n).attr=true then p.attribute (p.s.at p.n) o.pairs else (p,10))
 else if o.kind=40 then (match appliedS p.look o.pairs with|some c=>({p with look:=c},0)|none=>(p,10))
 else if o.kind=19 then ({p with s:=p.s.place p.n},0)
 else if o.kind=5 then (p.tab,0)
 else (p,0)
def Pen.mark (p:Pen) (o:Op):Pen:= {p with texts:=decide (o.kind=0∨o.kind=8)}
def ordN:Nat→List UInt8→Pen→Nat→Pen×Nat×Nat
 |0,_,p,k=>(p,k,0)
 |_+1,[],p,k=>(p,k,0)
 |n+1,c::tl,p,k=>if (opF (c::tl)).1≠0 then (p,k,(opF (c::tl)).1) else
  if (p.do (opF (c::tl)).2.1).2≠0 then ((p.do (opF (c::tl)).2.1).1,k,(p.do (opF (c::tl)).2.1).2)
  else ordN n (opF (c::tl)).2.2 ((p.do (opF (c::tl)).2.1).1.mark (opF (c::tl)).2.1) (k+1)
def ordS (l:List UInt8) (p:Pen) (k:Nat):Pen×Nat×Nat:=ordN l.length l p k
theorem foldl_inv {α β:Type} {P:β→Prop} (f:β→α→β) (h:∀b a,P b→P (f b a)):∀(l:List α) (b:β),P b→P (l.foldl f b)
 |[],_,hb=>hb
 |a::l,b,hb=>foldl_inv f h l (f b a) (h b a hb)
def SameN (s t:Sp):Prop:=t.good∧t.model=s.model∧t.alt=s.alt
theorem SameN.refl {s:Sp} (h:s.good):SameN s s:=⟨h,rfl,rfl⟩
theorem SameN.n {s t:Sp} (h:SameN s t):t.n=s.n:=by unfold Sp.n Sp.rows Sp.cols;rw[h.2.1,h.2.2]
theorem SameN.trans {a b c:Sp} (h:SameN a b) (k:SameN b c):SameN a c:=⟨k.1,k.2.1.trans h.2.1,k.2.2.trans h.2.2⟩
theorem SameN.set {s t:Sp} (h:SameN s t) (k:Int) (c:Cell):SameN s (t.set k c):=⟨h.1.set k c,h.2.1,h.2.2⟩
theorem SameN.put {s t:Sp} (h:SameN s t) (k:Int) (c:UInt8):SameN s (t.put k c):=⟨h.1.put k c,(t.model_put k c).1.trans h.2.1,(t.model_put k c).2.trans h.2.2⟩
theorem SameN.place {s t:Sp} (h:SameN s t) (k:Int):SameN s (t.place k):=⟨h.1.place k,h.2.1,h.2.2⟩
theorem SameN.rangeS {s t:Sp} (h:SameN s t) (l:List Nat):SameN s (rangeS t l):=
 foldl_inv (P:=SameN s) _ (fun b a hb=>by split;exact hb.put _ _;exact hb) l t h
theorem SameN.repeatS {s t:Sp} (h:SameN s t) (l:List Nat) (c:Cell):SameN s (repeatS t l c):=
 foldl_inv (P:=SameN s) _ (fun _b _a hb=>hb.set _ _) l t h
theorem SameN.nullS {s t:Sp} (h:SameN s t) (l:List Nat):SameN s (nullS t l):=
 foldl_inv (P:=SameN s) _ (fun _b _a hb=>hb.put _ _) l t h
structure PenOk (s:Sp) (p:Pen):Prop where
 same:SameN s p.s
 lt:p.n<s.n
theorem PenOk.step {s:Sp} {p:Pen} (h:PenOk s p) {t:Sp} (ht:SameN s t):PenOk s (p.step t):=
 ⟨ht,by show (p.n+1) % p.s.n<s.n;rw[h.same.n];exact Nat.mod_lt _ s.n_pos⟩
theorem PenOk.put {s:Sp} {p:Pen} (h:PenOk s p) (c:UInt8) (g:Bool):PenOk s (p.put c g):=h.step (h.same.set _ _)
theorem nextS_lt (s:Sp) (n:Nat):nextS s n<s.n:=by
 unfold nextS
 split
 ·rename_i i _;have:=Nat.mod_lt (n+i+1) s.n_pos;omega
 ·have:=s.n_pos;omega
theorem PenOk.tab {s:Sp} {p:Pen} (h:PenOk s p):PenOk s p.tab:=by
 have hs:SameN s (if p.texts=true then nullS p.s (nullsL p.s p.n) else p.s):=by
  split
  ·exact h.same.nullS _
  ·exact h.same
 refine ⟨hs, ?_⟩
 show tabN (if p.texts=true then nullS p.s (nullsL p.s p.n) else p.s) p.n<s.n
 have h1:=nextS_lt (if p.texts=true then nullS p.s (nullsL p.s p.n) else p.s) p.n
 rw[hs.n] at h1
 generalize (if p.texts=true then nullS p.s (nullsL p.s p.n) else p.s)=t at*
 have:=s.n_pos
 unfold tabN
 split<;>omega
theorem PenOk.attribute {s:Sp} {p:Pen} (h:PenOk s p) (c:Cell) (l:List (UInt8×UInt8)):PenOk s (p.attribute c l).1:=by
 unfold Pen.attribute;split
 ·exact h.step (h.same.set _ _)
 ·exact h
theorem PenOk.do {s:Sp} {p:Pen} (h:PenOk s p) (o:Op):PenOk s (p.do o).1:=by
 unfold Pen.do
 split
 ·exact foldl_inv (P:=PenOk s) _ (fun b a hb=>hb.put _ _) _ _ h
 split
 ·exact h.put _ _
 split
 ·unfold Pen.to;split
  ·exact h
  ·rename_i hlt;have:=s.n_pos;have:=h.same.n
   exact ⟨h.same,by show o.addr.toNat<s.n;omega⟩
 split
 ·unfold Pen.span;split
  ·exact h
  ·rename_i hlt;have:=s.n_pos;have:=h.same.n
   refine ⟨?_,by show o.addr.toNat<s.n;omega⟩
   show SameN s (if _ then _ else _)
   split
   ·exact h.same.rangeS _
   ·exact h.same.repeatS _ _
 split
 ·exact h.attribute _ _
 split
 ·exact h.attribute _ _
 split
 ·split
  ·exact h.attribute _ _
  ·exact h
 split
 ·split
  ·exact ⟨h.same,h.lt⟩
  ·exact h
 split
 ·exact ⟨h.same.place _,h.lt⟩
 split
 ·exact h.tab
 ·exact h
theorem PenOk.mark {s:Sp} {p:Pen} (h:PenOk s p) (o:Op):PenOk s (p.mark o):=⟨h.same,h.lt⟩
theorem PenOk.ordN {s:Sp} :∀(n:Nat) (l:List UInt8) {p:Pen} (k:Nat),PenOk s p→PenOk s (ordN n l p k).1
 |0,_,_,_,h=>h
 |_+1,[],_,_,h=>h
 |n+1,c::tl,p,k,h=>by
  unfold Go.Proofs.YtjnopnpkfhopbaaGreatDoor.ordN
  split
  ·exact h
  ·split
   ·exact h.do _
   ·exact PenOk.ordN n _ _ ((h.do _).mark _)
def penO (q:Nat) (p:Pen):List AV:=[ptrA q, .lit (.int .i64 p.n),byteA p.look.char, .lit (.bool p.look.attr),byteA p.look.fa,byteA p.look.high,byteA p.look.color,byteA p.look.set, .lit (.bool p.texts)]
structure Pn (σ:Store) (z q r:Nat) (p:Pen):Prop where
 pen:σ z=some (penO q p)
 scr:Prg σ q r p.s
 zq:¬z=q
 zr:¬z=r
def pn (σ:Store) (z q r:Nat) (p:Pen):Store:=(putS spO σ q r p.s).upd z (penO q p)
theorem Pn.self {σ:Store} {z q r:Nat} {p:Pen} (h:Pn σ z q r p):pn σ z q r p=σ:=by
 rw[pn,h.scr.put_self,upd_back h.pen]
theorem Pn.make {σ:Store} {z q r:Nat} {p:Pen} (hq:q≠r) (hzq:¬z=q) (hzr:¬z=r) (hg:p.s.good):Pn (pn σ z q r p) z q r p:=
 ⟨by simp[pn],(Scr.of_put hq hg).upd ⟨fun h=>hzq h.symm,fun h=>hzr h.symm⟩ _,hzq,hzr⟩
theorem Pn.to {σ:Store} {z q r:Nat} {p:Pen} (h:Pn σ z q r p) (p':Pen) (hg:p'.s.good):Pn (pn σ z q r p') z q r p':=Pn.make h.scr.ne h.zq h.zr hg
theorem putS_upd {f:Sp→Nat→List AV} {σ:Store} {q r z:Nat} (s:Sp) (X:List AV) (h1:¬z=q) (h2:¬z=r):putS f (σ.upd z X) q r s=(putS f σ q r s).upd z X:=by
 refine Store.ext2 (fun o=> ?_) (fun i=>by simp[putS])
 simp only[putS,supd_apply]
 by_cases e:o=z
 ·subst e;simp[h1,h2]
 ·simp[e]
theorem pn_pn {σ:Store} {z q r:Nat} (p p':Pen) (hq:q≠r) (h1:¬z=q) (h2:¬z=r):pn (pn σ z q r p) z q r p'=pn σ z q r p':=by
 unfold pn
 rw[putS_upd _ _ h1 h2,putS_twice _ _ hq]
 simp
theorem pn_scr {σ:Store} {z q r:Nat} {p:Pen} (h:Pn σ z q r p) (s:Sp):putS spO σ q r s=pn σ z q r {p with s:=s} :=by
 have:penO q {p with s:=s} =penO q p:=rfl
 rw[pn,this]
 refine Store.ext2 (fun o=> ?_) (fun i=>by simp)
 simp only[supd_apply]
 split
 ·rename_i ho;subst ho
  simp[putS,h.zq,h.zr,h.pen]
 ·rfl
theorem pn_pen {σ:Store} {z q r:Nat} {p:Pen} (h:Pn σ z q r p) (p':Pen) (hs:p'.s=p.s):σ.upd z (penO q p')=pn σ z q r p':=by
 rw[pn,hs,h.scr.put_self]
theorem Pn.new {σ:Store} {z q r:Nat} {p:Pen} (h:Pn σ z q r p) {b:Nat} (hb:σ b=none) (X:List AV):Pn (σ.upd b X) z q r p:=by
 have hz:¬z=b:=by rintro rfl;rw[h.pen] at hb;cases hb
 exact ⟨by simp[hz,h.pen],h.scr.new hb X,h.zq,h.zr⟩
theorem Pn.fresh {σ:Store} {z q r:Nat} {p:Pen} (h:Pn σ z q r p) {b:Nat} (hb:σ b=none):¬z=b∧¬b=z∧¬q=b∧¬r=b∧¬b=q∧¬b=r:=by
 have hz:¬z=b:=by rintro rfl;rw[h.pen] at hb;cases hb
 obtain ⟨a,b',c,d⟩:=h.scr.fresh hb
 exact ⟨hz,Ne.symm hz,a,b',c,d⟩
theorem Pn.ne {σ:Store} {z q r:Nat} {p:Pen} (h:Pn σ z q r p):∀b:Nat,σ b=none→¬z=b:=fun _ hb=>(h.fresh hb).1
theorem Pn.mono {σ τ:Store} {z q r:Nat} {p:Pen} (h:Pn τ z q r p) (hs:Store.sub τ σ):Pn σ z q r p:=by
 refine ⟨?_, ?_,h.zq,h.zr⟩
 ·exact sub_at h.pen hs
 ·exact prg_mono h.scr hs
theorem pn_sub {σ τ:Store} (h:Store.sub σ τ) (z q r:Nat) (p:Pen):Store.sub (pn σ z q r p) (pn τ z q r p):=by
 refine Store.sub2 (fun o=> ?_) (fun i=>by simpa[pn,putS] using h (mkey i))
 simp only[pn,putS,supd_apply]
 repeat' split
 ·exact .inr rfl
 ·exact .inr rfl
 ·exact .inr rfl
 ·exact h o
theorem pn_step {σ:Store} {z q r:Nat} {p:Pen} (h:Pn σ z q r p) (s:Sp):pn (putS spO σ q r s) z q r (Pen.step {p with s:=s} s)=pn σ z q r {p with s:=s,n:=(p.n+1) % s.n} :=by
 rw[pn_scr h,pn_pn _ _ h.scr.ne h.zq h.zr];rfl
theorem next_calls {σ:Store} {z q r:Nat} {p:Pen} (h:Pn σ z q r p) (hl:p.n<4000):ACalls Tryz.prog 123 [ptrA z] σ fun v σ'=>v= .tuple []∧σ'=pn σ z q r (p.step p.s):=by
 have hp:=h.pen
 have hsz:=fun τ (hτ:Prg τ q r p.s)=>size_calls hτ
 have hw:=fun τ=>swrap_calls p.s ((p.n+1:Nat):Int) τ
 rw[wrap_mod p.s.n_pos] at hw
 have hi:IntKind.i64.wrap ((p.n:Int)+1)=((p.n+1:Nat):Int):=by rw[wrap_i64 (by omega) (by omega)];omega
 have hfin:∀X,penO q (p.step p.s)=X→pn σ z q r (p.step p.s)=σ.upd z X:=fun X hX=>by rw[←hX];exact (pn_pen h (p.step p.s) rfl).symm
 have hst:penO q (p.step p.s)=[ptrA q, .lit (.int .i64 ((p.n+1) % p.s.n:Nat)),byteA p.look.char, .lit (.bool p.look.attr),byteA p.look.fa,byteA p.look.high,byteA p.look.color,byteA p.look.set, .lit (.bool p.texts)]:=rfl
 rw[hfin _ hst]
 generalize (p.n+1) % p.s.n=m at*
 unfold penO at hp
 refine aw st123 pl123 16 Tryz.func123 rfl ?_
 simp[hp]
 repeat' (with_reducible apply And.intro)
 all_goals
  refine callK.of (hsz _ h.scr) ?_
  rintro v σ' ⟨rfl,rfl⟩
  simp[hp,hi]
  refine callK.of (hw _) ?_
  rintro v σ' ⟨rfl,rfl⟩
  simp[hp]
theorem cell_calls {σ:Store} {z q r:Nat} {p:Pen} (h:Pn σ z q r p) (c:UInt8) (g:Bool):ACalls Tryz.prog 122 [ptrA z,byteA c, .lit (.bool g)] σ fun v σ'=>v=cellA (lookW p.look c g)∧σ'=σ:=by
 have hp:=h.pen
 unfold penO at hp
 refine aw st122 pl122 17 Tryz.func122 rfl ?_
 rw[cellA_eq]
 have hzb:=h.ne
 cases g
 ·simp+contextual [hp,lookW,ite_free,hzb]
  intros
  first|exact ⟨AV.le_refl _,by (intro q;simp only[Store.upd,Store.del];(repeat' split)<;>first|exact Or.inr rfl|exact Or.inl rfl|(exfalso;omega)|(left;subst_vars;assumption)|simp_all)⟩|(intro q;simp only[Store.upd,Store.del];(repeat' split)<;>first|exact Or.inr rfl|exact Or.inl rfl|(exfalso;omega)|(left;subst_vars;assumption)|simp_all)
 ·simp+contextual [hp,lookW,ite_free,hzb]
  intros
  first|exact ⟨AV.le_refl _,by (intro q;simp only[Store.upd,Store.del];(repeat' split)<;>first|exact Or.inr rfl|exact Or.inl rfl|(exfalso;omega)|(left;subst_vars;assumption)|simp_all)⟩|(intro q;simp only[Store.upd,Store.del];(repeat' split)<;>first|exact Or.inr rfl|exact Or.inl rfl|(exfalso;omega)|(left;subst_vars;assumption)|simp_all)
theorem pput2_calls {σ:Store} {z q r:Nat} {p:Pen} (h:Pn σ z q r p) (hl:p.n<4000) (c:UInt8) (g:Bool):ACalls Tryz.prog 113 [ptrA z,byteA c, .lit (.bool g)] σ fun v σ'=>v= .tuple []∧σ'=pn σ z q r (p.put c g):=by
 have hp:=h.pen
 have hc:=fun τ (hτ:Pn τ z q r p)=>cell_calls hτ c g
 have hs:=fun τ (hτ:Prg τ q r p.s)=>set_calls hτ (p.n:Int) (lookW p.look c g)
 have hP1:Pn (pn σ z q r {p with s:=p.s.set p.n (lookW p.look c g)}) z q r {p with s:=p.s.set p.n (lookW p.look c g)} :=h.to _ (h.scr.good.set _ _)
 have hn:=next_calls hP1 hl
 have hfin:∀τ,τ=pn (pn σ z q r {p with s:=p.s.set p.n (lookW p.look c g)}) z q r (Pen.step {p with s:=p.s.set p.n (lookW p.look c g)} (p.s.set p.n (lookW p.look c g)))→τ=pn σ z q r (p.put c g):=fun τ hτ=>by
  rw[hτ,pn_pn _ _ h.scr.ne h.zq h.zr];rfl
 have hs2:=pn_scr h (p.s.set p.n (lookW p.look c g))
 rw[←hs2] at hn hfin
 unfold penO at hp
 refine aw st113 pl113 21 Tryz.func113 rfl ?_
 simp[hp]
 repeat' (with_reducible apply And.intro)
 all_goals
  refine callK.of (hc _ h) ?_
  rintro v σ' ⟨rfl,rfl⟩
  simp[hp]
  refine callK.of (hs _ h.scr) ?_
  rintro v σ' ⟨rfl,rfl⟩
  simp
  refine callK.of hn ?_
  rintro v σ' ⟨rfl,h2⟩
  simp
  rw[←hfin _ h2]
  exact Store.sub_refl _
theorem to_calls {σ:Store} {z q r:Nat} {p:Pen} (h:Pn σ z q r p) (n:Int) (hn0:0≤n):ACalls Tryz.prog 114 [ptrA z, .lit (.int .i64 n)] σ fun v σ'=>v= .lit (.int .i64 (p.to n).2)∧σ'=pn σ z q r (p.to n).1:=by
 have hp:=h.pen
 have hsz:=fun τ (hτ:Prg τ q r p.s)=>size_calls hτ
 have hcl:=fun τ=>scells_calls p.s τ
 unfold Pen.to
 by_cases hlt:(p.s.n:Int)≤n
 ·rw[if_pos hlt,h.self]
  unfold penO at hp
  refine aw st114 pl114 17 Tryz.func114 rfl ?_
  simp[hp]
  refine callK.of (hsz _ h.scr) ?_
  rintro v σ' ⟨rfl,rfl⟩
  simp
  refine callK.of (hcl _) ?_
  rintro v σ' ⟨rfl,rfl⟩
  simp[hlt]
 ·rw[if_neg hlt]
  have hfin:σ.upd z (penO q {p with n:=n.toNat})=pn σ z q r {p with n:=n.toNat} :=pn_pen h {p with n:=n.toNat} rfl
  rw[←hfin]
  have hnn:((n.toNat:Nat):Int)=n:=by omega
  unfold penO at hp⊢
  rw[hnn]
  refine aw st114 pl114 17 Tryz.func114 rfl ?_
  simp[hp]
  refine callK.of (hsz _ h.scr) ?_
  rintro v σ' ⟨rfl,rfl⟩
  simp
  refine callK.of (hcl _) ?_
  rintro v σ' ⟨rfl,rfl⟩
  simp[hlt,hp]
theorem apply_calls (c:Cell) (t v:UInt8) (σ:Store):ACalls Tryz.prog 61 [.agg [byteA t,byteA v],cellA c] σ fun w σ'=>w= .tuple [cellA (if chkE t v=0 then applyP c t v else .zero), .lit (.int .i64 (chkE t v:Nat))]∧σ'=σ:=by
 have hch:=fun τ=>check_calls t v τ
 have ht:=byteA_lit t
 have hv:=byteA_lit v
 have h6:=and61 v
 by_cases h0:chkE t v=0
 ·have hok:okP t.toNat v.toNat:=by unfold chkE at h0;split at h0<;>simp_all
  rw[if_pos h0]
  rw[h0] at hch⊢
  unfold applyP
  rw[cellA_eq,cellA_eq]
  have l0:byteA 0= .lit (.int .u8 0):=rfl
  by_cases t0:t.toNat=0
  ·rw[if_pos t0]
   rw[ht,t0] at hch⊢
   rw[l0]
   refine aw st61 pl61 44 Tryz.func61 rfl ?_
   simp+contextual [ite_free]
   intro b1 hb1 b2 n1 n2 hb2 b3 n3 n4 n5 n6 hb3
   refine callK.of (hch _) ?_
   rintro w σ' ⟨rfl,rfl⟩
   simp+contextual [n2,n3,n4,n6]
   intros
   first|exact ⟨AV.le_refl _,by (intro q;simp only[Store.upd,Store.del];(repeat' split)<;>first|exact Or.inr rfl|exact Or.inl rfl|(exfalso;omega)|(left;subst_vars;assumption)|simp_all)⟩|(intro q;simp only[Store.upd,Store.del];(repeat' split)<;>first|exact Or.inr rfl|exact Or.inl rfl|(exfalso;omega)|(left;subst_vars;assumption)|simp_all)
  rw[if_neg t0]
  by_cases t1:t.toNat=192
  ·rw[if_pos t1]
   rw[ht,t1] at hch⊢
   rw[hv] at hch⊢
   by_cases ha:c.attr=true
   ·rw[if_pos ha]
    have hsx:=byteA_lit (Sp.six v)
    rw[ha]
    simp only[hsx]
    refine aw st61 pl61 44 Tryz.func61 rfl ?_
    simp+contextual [-e_pureBin_8,ite_free]
    intro b1 hb1 b2 n1 n2 hb2 b3 n3 n4 n5 n6 hb3
    refine callK.of (hch _) ?_
    rintro w σ' ⟨rfl,rfl⟩
    simp+contextual [-e_pureBin_8,h6,n2,n3,n4,n6]
    intros
    first|exact ⟨AV.le_refl _,by (intro q;simp only[Store.upd,Store.del];(repeat' split)<;>first|exact Or.inr rfl|exact Or.inl rfl|(exfalso;omega)|(left;subst_vars;assumption)|simp_all)⟩|(intro q;simp only[Store.upd,Store.del];(repeat' split)<;>first|exact Or.inr rfl|exact Or.inl rfl|(exfalso;omega)|(left;subst_vars;assumption)|simp_all)
   ·rw[if_neg ha]
    have ha':c.attr=false:=by simpa using ha
    rw[ha']
    refine aw st61 pl61 44 Tryz.func61 rfl ?_
    simp+contextual [ite_free]
    intro b1 hb1 b2 n1 n2 hb2 b3 n3 n4 n5 n6 hb3
    refine callK.of (hch _) ?_
    rintro w σ' ⟨rfl,rfl⟩
    simp+contextual [n2,n4,n6]
    intros
    first|exact ⟨AV.le_refl _,by (intro q;simp only[Store.upd,Store.del];(repeat' split)<;>first|exact Or.inr rfl|exact Or.inl rfl|(exfalso;omega)|(left;subst_vars;assumption)|simp_all)⟩|(intro q;simp only[Store.upd,Store.del];(repeat' split)<;>first|exact Or.inr rfl|exact Or.inl rfl|(exfalso;omega)|(left;subst_vars;assumption)|simp_all)
  rw[if_neg t1]
  by_cases t2:t.toNat=65
  ·rw[if_pos t2]
   rw[ht,t2] at hch⊢
   refine aw st61 pl61 44 Tryz.func61 rfl ?_
   simp+contextual [ite_free]
   intro b1 hb1 b2 n1 n2 hb2 b3 n3 n4 n5 n6 hb3
   refine callK.of (hch _) ?_
   rintro w σ' ⟨rfl,rfl⟩
   simp+contextual [n2,n3,n4,n6]
   intros
   first|exact ⟨AV.le_refl _,by (intro q;simp only[Store.upd,Store.del];(repeat' split)<;>first|exact Or.inr rfl|exact Or.inl rfl|(exfalso;omega)|(left;subst_vars;assumption)|simp_all)⟩|(intro q;simp only[Store.upd,Store.del];(repeat' split)<;>first|exact Or.inr rfl|exact Or.inl rfl|(exfalso;omega)|(left;subst_vars;assumption)|simp_all)
  rw[if_neg t2]
  by_cases t3:t.toNat=66
  ·rw[if_pos t3]
   rw[ht,t3] at hch⊢
   refine aw st61 pl61 44 Tryz.func61 rfl ?_
   simp+contextual [ite_free]
   intro b1 hb1 b2 n1 n2 hb2 b3 n3 n4 n5 n6 hb3
   refine callK.of (hch _) ?_
   rintro w σ' ⟨rfl,rfl⟩
   simp+contextual [n2,n3,n4,n6]
   intros
   first|exact ⟨AV.le_refl _,by (intro q;simp only[Store.upd,Store.del];(repeat' split)<;>first|exact Or.inr rfl|exact Or.inl rfl|(exfalso;omega)|(left;subst_vars;assumption)|simp_all)⟩|(intro q;simp only[Store.upd,Store.del];(repeat' split)<;>first|exact Or.inr rfl|exact Or.inl rfl|(exfalso;omega)|(left;subst_vars;assumption)|simp_all)
  rw[if_neg t3]
  have t4:t.toNat=67:=by unfold okP at hok;omega
  rw[ht,t4] at hch⊢
  refine aw st61 pl61 44 Tryz.func61 rfl ?_
  simp+contextual [ite_free]
  intro b1 hb1 b2 n1 n2 hb2 b3 n3 n4 n5 n6 hb3
  refine callK.of (hch _) ?_
  rintro w σ' ⟨rfl,rfl⟩
  simp+contextual [n2,n3,n4,n6]
  intros
  first|exact ⟨AV.le_refl _,by (intro q;simp only[Store.upd,Store.del];(repeat' split)<;>first|exact Or.inr rfl|exact Or.inl rfl|(exfalso;omega)|(left;subst_vars;assumption)|simp_all)⟩|(intro q;simp only[Store.upd,Store.del];(repeat' split)<;>first|exact Or.inr rfl|exact Or.inl rfl|(exfalso;omega)|(left;subst_vars;assumption)|simp_all)
 ·rw[if_neg h0]
  have h0':¬(chkE t v:Int)=0:=by omega
  generalize chkE t v=e at*
  rw[cellA_eq]
  have hz:cellA .zero= .agg [.lit (.int .u8 0), .lit (.bool false), .lit (.int .u8 0), .lit (.int .u8 0), .lit (.int .u8 0), .lit (.int .u8 0)]:=rfl
  rw[hz]
  refine aw st61 pl61 44 Tryz.func61 rfl ?_
  simp+contextual [ite_free]
  intro b1 hb1 b2 n1 n2 hb2 b3 n3 n4 n5 n6 hb3
  refine callK.of (hch _) ?_
  rintro w σ' ⟨rfl,rfl⟩
  simp+contextual [h0]
  intros
  first|exact ⟨AV.le_refl _,by (intro q;simp only[Store.upd,Store.del];(repeat' split)<;>first|exact Or.inr rfl|exact Or.inl rfl|(exfalso;omega)|(left;subst_vars;assumption)|simp_all)⟩|(intro q;simp only[Store.upd,Store.del];(repeat' split)<;>first|exact Or.inr rfl|exact Or.inl rfl|(exfalso;omega)|(left;subst_vars;assumption)|simp_all)
end Go.Proofs.YtjnopnpkfhopbaaGreatDoor
