/-
 A screen's cells as they are sent: the program's attributes, and all of a buffer.
-/
import Derived.Test.YtjnopnpkfhopbaaGreatDoorPart21
set_option linter.unusedSimpArgs false
set_option linter.unusedVariables false
set_option maxRecDepth 8000
set_option maxHeartbeats 8000000
namespace Go.Proofs.YtjnopnpkfhopbaaGreatDoor
open Go Go.AL Go.Sp
theorem flatP_succ (l:List (UInt8×UInt8)) (i:Nat) (h:i<l.length):flatP (l.take (i+1))=flatP (l.take i)++[l[i].1,l[i].2]:=by
 unfold flatP
 rw[List.take_succ_eq_append_getElem h,List.flatMap_append];simp
def prB (l:List (UInt8×UInt8)):List UInt8:=UInt8.ofNat l.length::flatP l
theorem abytes_calls (o:Bool) (l:List (UInt8×UInt8)) (hl:l.length≤255) (hp:allP l) (σ:Store):ACalls Tryz.prog 55 [.list o 2 (pairsA l)] σ fun v σ'=>v= .tuple [.list true 1 (bytesA (prB l)), .lit (.int .i64 0)]∧σ'=σ:=by
 refine aw st55 pl55 35 Tryz.func55 rfl ?_
 have hlong':¬(255:Int)<l.length:=by omega
 have hlong:¬255<l.length:=by omega
 have hcv:IntKind.u8.wrap (l.length:Int)=((UInt8.ofNat l.length).toNat:Int):=by
  rw[wrap_u8 (by omega) (by omega),UInt8.toNat_ofNat'];omega
 have hb1:∀m:List UInt8,bytesA (UInt8.ofNat l.length::m)= .lit (.int .u8 ((UInt8.ofNat l.length).toNat:Int))::bytesA m:=fun m=>rfl
 have hpl:=pairsA_length l
 simp[hlong,hlong',hcv,hpl]
 refine codeK.loop follows (st:=st55) (plans:=pl55) (X:=Nat) (fun i=>i≤l.length)
  (fun i=>[(4, .list true 1 (bytesA (UInt8.ofNat l.length::flatP (l.take i)))),(15, .list false 2 (pairsA l)),(16, .lit (.int .i64 l.length)),(17, .lit (.int .i64 i))]) (fun _=>σ) (fun i=>l.length-i) 0 (by kernel_rfl) (by simp) (by simp[hb1,flatP,bytesA_nil]) (Store.sub_refl _) fun i hi=> ?_
 by_cases hlt:i<l.length
 ·have hw:IntKind.i64.wrap ((i:Int)+1)=((i+1:Nat):Int):=wrap_i64 (by omega) (by omega)
  have hs:=check_calls l[i].1 l[i].2
  have hx:=hp _ (List.getElem_mem hlt)
  rw[hx] at hs
  have hga:=pairsA_at l i hlt
  have hf:=flatP_succ l i hlt
  have hfl:=flatP_length (l.take i)
  rw[List.length_take] at hfl
  have hlen1:(bytesA (UInt8.ofNat l.length::flatP (l.take i))).length≤1000:=by simp;omega
  have hnext:bytesA (UInt8.ofNat l.length::flatP (l.take (i+1)))=bytesA (UInt8.ofNat l.length::flatP (l.take i))++[byteA l[i].1,byteA l[i].2]:=by
   rw[hf,←List.cons_append,bytesA_append];rfl
  generalize bytesA (UInt8.ofNat l.length::flatP (l.take i))=BI at*
  generalize l[i]=x at*
  simp[hlt,hpl,hga]
  intro p hp
  refine callK.eq (hs _) ?_
  simp
  refine ⟨by omega,by omega,i+1,by omega,by omega,⟨?_, ?_⟩, ?_⟩
  ·rw[hnext];exact AV.le_refl _
  ·rw[hw];exact AV.le_refl _
  ·exact Store.sub_upd hp (Store.sub_refl _)
 ·obtain rfl:i=l.length:=by omega
  have ht:l.take l.length=l:=List.take_length
  simp[ht,prB]
def prTo (c:Cell):Nat→List (UInt8×UInt8)
 |0=>[]
 |1=>d1 .zero c
 |2=>d1 .zero c++d2 .zero c
 |_=>diffP .zero c
def hdC (c:Cell):List (UInt8×UInt8):=if c.attr=true then [(192,six (Sp.six c.fa).toNat)] else []
theorem hdC_pairs {c:Cell} (h:c.attr=true):hdC c++diffP .zero c=pairsC c:=by unfold hdC;rw[if_pos h];rfl
theorem hdC_len (c:Cell):(hdC c).length≤1:=by unfold hdC;split<;>simp
theorem pairsA_app (l k:List (UInt8×UInt8)):pairsA (l++k)=pairsA l++pairsA k:=by simp[pairsA]
theorem byte_zero {b:UInt8} :((b.toNat:Int)=0)↔b=0:=⟨fun h=>UInt8.toNat_inj.1 (by have:(0:UInt8).toNat=0:=rfl;omega),fun h=>by rw[h];rfl⟩
theorem pairs_c_calls (c:Cell) (σ:Store):ACalls Tryz.prog 56 [cellA c] σ fun v σ'=>v= .list false 2 (pairsA (hdC c++diffP .zero c))∧σ'=σ:=by
 have hlk:=looks_calls c
 have h6:=fun τ=>six_calls (Sp.six c.fa).toNat (by have:=(Sp.six c.fa).toNat_lt;omega) τ
 have h61:=and61 c.fa
 have hwr:IntKind.i64.wrap ((Sp.six c.fa).toNat:Int)=(Sp.six c.fa).toNat:=wrap_i64 (by omega) (by have:=(Sp.six c.fa).toNat_lt;omega)
 rw[cellA_eq] at hlk⊢
 refine aw st56 pl56 31 Tryz.func56 rfl ?_
 have hcc:cellC c=[byteA c.char, .lit (.bool c.attr),byteA c.fa,byteA c.high,byteA c.color,byteA c.set]:=rfl
 have hhd:=hdC_len c
 generalize hrest:Code.seq (Code.seq (Code.region 4 _ false) _) _=rest
 have hcont:∀(A':Slots) (p1:Nat) (τ:Store),A' 1=ptrA p1→A' 3= .list true 2 (pairsA (hdC c))→τ p1=some (cellC c)→Store.sub σ τ→
   awp Tryz.prog st56 pl56 31 rest (aret Tryz.prog [.tmp 2] fun v σ'=>v= .list false 2 (pairsA (hdC c++diffP .zero c))∧σ'=σ) A' τ:=by
  intro A' p1 τ a1 a3 hp1 hsub
  rw[←hrest]
  clear hrest h6 h61 hwr
  rw[hcc] at hp1
  simp[a1,a3,hp1]
  refine callK.eq (hlk _) ?_
  simp
  refine codeK.loop follows (st:=st56) (plans:=pl56) (X:=Nat) (fun i=>i≤3)
   (fun i=>[(3, .list true 2 (pairsA (hdC c++prTo c i))),(18, .agg (lookC c)),(19, .lit (.int .i64 i))])
   (fun _=>τ) (fun i=>3-i) 0 (by kernel_rfl) (by simp) (by simp[a3,prTo]) (Store.sub_refl _) fun i hi=> ?_
  have hlen:∀j,(hdC c++prTo c j).length≤10:=fun j=>by
   have:=diffP_length .zero c
   rw[List.length_append]
   have:(prTo c j).length≤3:=by
    unfold prTo d1 d2;(repeat' split)<;>(try simp)<;>assumption
   omega
  have hc:i=0∨i=1∨i=2∨i=3:=by omega
  have hz:Cell.zero.high=0∧Cell.zero.color=0∧Cell.zero.set=0:=⟨rfl,rfl,rfl⟩
  have step:∀(j:Nat) (t v:UInt8),(v=0→prTo c (j+1)=prTo c j)∧(¬v=0→prTo c (j+1)=prTo c j++[(t,v)])→
    (v=0→pairsA (hdC c++prTo c (j+1))=pairsA (hdC c++prTo c j))∧(¬v=0→pairsA (hdC c++prTo c (j+1))=pairsA (hdC c++prTo c j)++[.agg [byteA t,byteA v]]):=fun j t v ⟨h1,h2⟩=>
   ⟨fun h=>by rw[h1 h],fun h=>by rw[h2 h,←List.append_assoc,pairsA_app];rfl⟩
  have s0:=step 0 65 c.high ⟨fun h=>by simp[prTo,d1,h,hz],fun h=>by simp[prTo,d1,hz,Ne.symm h]⟩
  have s1:=step 1 66 c.color ⟨fun h=>by simp[prTo,d2,h,hz],fun h=>by simp[prTo,d2,hz,Ne.symm h]⟩
  have s2:=step 2 67 c.set ⟨fun h=>by simp[prTo,diffP,d3,h,hz],fun h=>by simp[prTo,diffP,d3,hz,Ne.symm h]⟩
  have l0:=hlen 0
  have l1:=hlen 1
  have l2:=hlen 2
  have hp3:pairsA (hdC c++prTo c 3)=pairsA (hdC c++diffP .zero c):=rfl
  rw[←pairsA_length] at l0 l1 l2
  rcases hc with rfl|rfl|rfl|rfl
  ·simp only[Nat.zero_add] at s0
   generalize pairsA (hdC c++prTo c 0)=P0 at*
   simp[lookC]
   intro p hp
   by_cases h:c.high=0
   ·have h':(c.high.toNat:Int)=0:=byte_zero.2 h
    have e1:byteA c.high= .lit (.int .u8 0):=by rw[byteA,h']
    simp[e1]
    exact ⟨1,by omega,by omega,⟨by rw[s0.1 h];exact AV.le_refl _,AV.le_refl _⟩,sub_upd_self _ _ _ hp⟩
   ·have h':¬(c.high.toNat:Int)=0:=fun e=>h (byte_zero.1 e)
    have e1:byteA c.high= .lit (.int .u8 c.high.toNat):=rfl
    have h'':¬c.high.toNat=0:=by omega
    simp[e1,h',h'']
    exact ⟨by omega,by omega,1,by omega,by omega,⟨by rw[s0.2 h];exact AV.le_refl _,AV.le_refl _⟩,sub_upd_self _ _ _ hp⟩
  ·generalize pairsA (hdC c++prTo c 1)=P0 at*
   simp[lookC]
   intro p hp
   by_cases h:c.color=0
   ·have h':(c.color.toNat:Int)=0:=byte_zero.2 h
    have e1:byteA c.color= .lit (.int .u8 0):=by rw[byteA,h']
    simp[e1]
    exact ⟨2,by omega,by omega,⟨by rw[s1.1 h];exact AV.le_refl _,AV.le_refl _⟩,sub_upd_self _ _ _ hp⟩
   ·have h':¬(c.color.toNat:Int)=0:=fun e=>h (byte_zero.1 e)
    have e1:byteA c.color= .lit (.int .u8 c.color.toNat):=rfl
    have h'':¬c.color.toNat=0:=by omega
    simp[e1,h',h'']
    exact ⟨by omega,by omega,2,by omega,by omega,⟨by rw[s1.2 h];exact AV.le_refl _,AV.le_refl _⟩,sub_upd_self _ _ _ hp⟩
  ·generalize pairsA (hdC c++prTo c 2)=P0 at*
   rw[hp3] at s2
   simp[lookC]
   intro p hp
   by_cases h:c.set=0
   ·have h':(c.set.toNat:Int)=0:=byte_zero.2 h
    have e1:byteA c.set= .lit (.int .u8 0):=by rw[byteA,h']
    simp[e1]
    exact ⟨3,by omega,by omega,⟨by rw[hp3,s2.1 h];exact AV.le_refl _,AV.le_refl _⟩,sub_upd_self _ _ _ hp⟩
   ·have h':¬(c.set.toNat:Int)=0:=fun e=>h (byte_zero.1 e)
    have e1:byteA c.set= .lit (.int .u8 c.set.toNat):=rfl
    have h'':¬c.set.toNat=0:=by omega
    simp[e1,h',h'']
    exact ⟨by omega,by omega,3,by omega,by omega,⟨by rw[hp3,s2.2 h];exact AV.le_refl _,AV.le_refl _⟩,sub_upd_self _ _ _ hp⟩
  ·simp[hp3]
   exact hsub
 clear hrest hlk
 by_cases ha:c.attr=true
 ·have e0:hdC c=[(192,six (Sp.six c.fa).toNat)]:=if_pos ha
  have e1:byteA c.fa= .lit (.int .u8 c.fa.toNat):=rfl
  rw[e1,ha]
  rw[hcc,e1,ha] at hcont
  simp[-e_pureBin_8, -UInt8.toNat_and,h61,hwr]
  intro p hp
  refine callK.eq (h6 _) ?_
  simp
  refine hcont _ p _ ?_ ?_ ?_ (sub_upd_self _ _ _ hp)
  ·simp
  ·rw[e0];simp[pairsA,byteA]
  ·simp
 ·have ha':c.attr=false:=by simpa using ha
  have e0:hdC c=[]:=if_neg ha
  rw[ha']
  rw[hcc,ha'] at hcont
  simp
  intro p hp
  refine hcont _ p _ ?_ ?_ ?_ (sub_upd_self _ _ _ hp)
  ·simp
  ·rw[e0];simp[pairsA]
  ·simp
def attrB (mode:Nat) (c:Cell):List UInt8:=if mode=0 then [29,six c.fa.toNat] else 41::prB (pairsC c)
theorem sattr_calls (z:Nat) (out:List UInt8) (last:Cell) (mode:Nat) (hm:mode<3) (c:Cell) (ha:c.attr=true) (hc:¬mode=0→okC c) (ho:out.length≤1000000000) (σ:Store) (hz:σ z=some (seO out last mode)):
  ACalls Tryz.prog 26 [ptrA z,cellA c] σ fun v σ'=>v= .tuple []∧σ'=σ.upd z (seO (out++attrB mode c) last mode):=by
 have h6:=fun τ=>six_calls c.fa.toNat (by have:=c.fa.toNat_lt;omega) τ
 have hwr:IntKind.i64.wrap (c.fa.toNat:Int)=c.fa.toNat:=wrap_i64 (by omega) (by have:=c.fa.toNat_lt;omega)
 have hpc:=fun τ=>pairs_c_calls c τ
 rw[hdC_pairs ha] at hpc
 have hzb:∀b:Nat,σ b=none→¬z=b:=by rintro b hb rfl;rw[hz] at hb;cases hb
 have hs1:∀l,seO l last mode=[.list true 1 (bytesA l),byteA last.char, .lit (.bool last.attr),byteA last.fa,byteA last.high,byteA last.color,byteA last.set, .lit (.int .i64 mode)]:=fun _=>rfl
 rw[hs1] at hz⊢
 rw[cellA_eq] at hpc⊢
 refine aw st26 pl26 43 Tryz.func26 rfl ?_
 by_cases h0:mode=0
 ·subst h0
  have e1:byteA c.fa= .lit (.int .u8 c.fa.toNat):=rfl
  have e2:attrB 0 c=[29,six c.fa.toNat]:=rfl
  rw[e1,e2,bytesA_append,show bytesA [29,six c.fa.toNat]=[.lit (.int .u8 29),byteA (six c.fa.toNat)] from rfl]
  clear hpc
  simp
  intro b hb
  have n1:=hzb b hb
  have n2:=Ne.symm n1
  simp[hz,n1,n2,hwr]
  repeat' (with_reducible apply And.intro)
  all_goals
   refine callK.eq (h6 _) ?_
   simp[hz,n1,n2]
   refine ⟨by omega,by omega, ?_⟩
   (intro q;simp only[Store.upd,Store.del];(repeat' split)<;>first|exact Or.inr rfl|exact Or.inl rfl|(exfalso;omega)|(left;subst_vars;assumption)|simp_all)
 ·have hpo:=pairsC_ok (hc h0)
  have hab:=fun o τ=>abytes_calls o (pairsC c) (by omega) hpo.2 τ
  have h0':¬(mode:Int)=0:=by omega
  have e2:attrB mode c=41::prB (pairsC c):=if_neg h0
  have e3:bytesA (41::prB (pairsC c))= .lit (.int .u8 41)::bytesA (prB (pairsC c)):=rfl
  have hl:(prB (pairsC c)).length≤600:=by
   have:=flatP_length (pairsC c)
   unfold prB;rw[List.length_cons];omega
  rw[e2,bytesA_append,e3]
  generalize prB (pairsC c)=B at*
  simp
  intro b hb
  have n1:=hzb b hb
  have n2:=Ne.symm n1
  simp[hz,n1,n2,h0,h0']
  refine callK.eq (hpc _) ?_
  simp
  refine callK.eq (hab _ _) ?_
  simp[hz,n1,n2]
  refine ⟨by omega,by omega,by omega,by omega, ?_⟩
  (intro q;simp only[Store.upd,Store.del];(repeat' split)<;>first|exact Or.inr rfl|exact Or.inl rfl|(exfalso;omega)|(left;subst_vars;assumption)|simp_all)
def stepB (mode:Nat) (x:Snd) (c:Cell):Snd:=(x.1++atsB (pcA mode x.2 c),lastC mode x.2 c)
def bufB (s:Sp) (mode:Nat) (aid:UInt8):List UInt8:=headB s aid++atsB (cellsAt mode .zero s.cells)
theorem foldl_stepB (mode:Nat):∀(l:List Cell) (x:Snd),(l.foldl (stepB mode) x).1=x.1++atsB (cellsAt mode x.2 l)
 |[],x=>by simp[cellsAt,atsB]
 |c::l,x=>by
  rw[List.foldl_cons,foldl_stepB mode l]
  simp[stepB,cellsAt,atsB]
theorem saB_ats (l:List (UInt8×UInt8)):atsB (l.map fun x=>At.sa x.1 x.2)=saB l:=by
 induction l with
 |nil=>rfl
 |cons x l ih=>simp only[atsB,saB,List.map_cons,List.flatMap_cons] at ih⊢;rw[ih];rfl
theorem ats_char {mode:Nat} {last c:Cell} (ha:c.attr=false):atsB (pcA mode last c)=if mode=2 then charG last c else charB c:=by
 unfold pcA
 rw[if_neg (by simp[ha])]
 by_cases hm:mode=2
 ·rw[if_pos hm,if_pos hm]
  have:∀l k:List At,atsB (l++k)=atsB l++atsB k:=fun l k=>by simp[atsB]
  rw[this,saB_ats];rfl
 ·rw[if_neg hm,if_neg hm]
  unfold charB
  by_cases hs:c.set=0xf1
  ·rw[if_pos hs,if_pos hs];rfl
  ·rw[if_neg hs,if_neg hs];rfl
theorem ats_attr {mode:Nat} {last c:Cell} (ha:c.attr=true):atsB (pcA mode last c)=attrB mode c:=by
 unfold pcA attrB
 rw[if_pos ha]
 by_cases hm:mode=0
 ·rw[if_pos hm,if_pos hm];rfl
 ·rw[if_neg hm,if_neg hm];simp[atsB,At.bytes,prB]
theorem pcA_len (mode:Nat) (last c:Cell):(atsB (pcA mode last c)).length≤20:=by
 have h1:=diffP_length .zero c
 have h2:=charG_length last c
 have h3:=charB_length c
 by_cases ha:c.attr=true
 ·rw[ats_attr ha]
  unfold attrB
  split
  ·simp
  ·have:=flatP_length (pairsC c)
   have h4:(pairsC c).length≤4:=by unfold pairsC;simp;omega
   unfold prB;simp;omega
 ·rw[ats_char (by simpa using ha)]
  split<;>omega
theorem schar_any {z:Nat} {x:Snd} {mode:Nat} (hm:mode<3) {c:Cell} (ha:c.attr=false) (hx:mode=2∨x.2= .zero) (ho:x.1.length≤1000000000) {σ:Store} (hz:σ z=some (seX mode x)):
  ACalls Tryz.prog 27 [ptrA z,cellA c] σ fun v σ'=>v= .tuple []∧σ'=σ.upd z (seX mode (stepB mode x c)):=by
 have he:=ats_char (mode:=mode) (last:=x.2) ha
 unfold seX stepB at*
 simp only
 rw[he]
 by_cases h2:mode=2
 ·subst h2
  have:lastC 2 x.2 c=c:=by simp[lastC,ha]
  rw[if_pos rfl,this]
  exact schar2_calls z x.1 x.2 c ho σ hz
 ·have:lastC mode x.2 c=x.2:=by simp[lastC,h2]
  rw[if_neg h2,this]
  exact schar_calls z x.1 x.2 mode (by omega) c ho σ hz
theorem sattr_any {z:Nat} {x:Snd} {mode:Nat} (hm:mode<3) {c:Cell} (ha:c.attr=true) (hc:¬mode=0→okC c) (ho:x.1.length≤1000000000) {σ:Store} (hz:σ z=some (seX mode x)):
  ACalls Tryz.prog 26 [ptrA z,cellA c] σ fun v σ'=>v= .tuple []∧σ'=σ.upd z (seX mode (stepB mode x c)):=by
 have he:=ats_attr (mode:=mode) (last:=x.2) ha
 unfold seX stepB at*
 simp only
 have:lastC mode x.2 c=x.2:=by simp[lastC,ha]
 rw[he,this]
 exact sattr_calls z x.1 x.2 mode hm c ha hc ho σ hz
theorem foldl_last (mode:Nat):∀(l:List Cell) (x:Snd),(mode=2∨x.2= .zero)→(mode=2∨(l.foldl (stepB mode) x).2= .zero)
 |[],_,h=>h
 |c::l,x,h=>by
  rw[List.foldl_cons]
  refine foldl_last mode l _ ?_
  rcases h with h|h
  ·exact .inl h
  ·by_cases h2:mode=2
   ·exact .inl h2
   ·right;show lastC mode x.2 c= .zero;simp[lastC,h2,h]
theorem stepB_len (mode:Nat) (x:Snd) (c:Cell):(stepB mode x c).1.length≤x.1.length+20:=by
 have:=pcA_len mode x.2 c
 show (x.1++_).length≤_
 rw[List.length_append];omega
theorem buffer_calls {q p:Nat} {s:Sp} {σ:Store} (h:Prg σ q p s) (aid:UInt8) (mode:Nat) (hm:mode<3) (hlook:looksS s):
  ACalls Tryz.prog 6 [ptrA q,byteA aid, .lit (.int .i64 mode)] σ fun v σ'=>v= .tuple [.list false 1 (bytesA (bufB s mode aid)), .lit (.int .i64 0)]∧σ'=σ:=by
 have hb:=fun τ (hτ:Prg τ q p s)=>begin_long hτ aid mode hm
 have hmb:bufB s mode aid=(s.cells.foldl (stepB mode) (headB s aid, .zero)).1:=by rw[foldl_stepB];rfl
 have hhl:(headB s aid).length=3:=rfl
 have hln:=h.good.len
 have hn:=s.n_le
 refine ACalls.of_awpY follows (st:=st6) (plans:=pl6) (n:=38) Tryz.func6 rfl (by kernel_rfl) (by kernel_rfl) (by kernel_rfl) ?_
 simp
 refine callK.of (hb _ h) ?_
 rintro v σ' ⟨z,hz,rfl,rfl⟩
 have hP2:=h.new hz (seO (headB s aid) .zero mode)
 obtain ⟨y1,y2,y3,y4⟩:=h.fresh hz
 simp
 intro bt ht
 simp only[ite_none] at ht
 obtain ⟨t1,ht⟩:=ht
 have t1':=Ne.symm t1
 obtain ⟨u1,u2,u3,u4⟩:=h.fresh ht
 refine callK.of (all_calls2 q _) ?_
 rintro v σ' ⟨b2,hb2,rfl,rfl⟩
 simp only[supd_apply,ite_none] at hb2
 obtain ⟨v1,v2,hb2⟩:=hb2
 obtain ⟨w1,w2,w3,w4⟩:=h.fresh hb2
 simp
 have hbig:∀k,((s.cells.take k).foldl (stepB mode) (headB s aid, .zero)).1.length≤1000000000:=fun k=>by
  have h1:=foldl_length (stepB mode) 20 (stepB_len mode) (s.cells.take k) (headB s aid, .zero)
  have h2:(s.cells.take k).length≤s.cells.length:=by simp;omega
  dsimp only at h1
  omega
 have hlast:∀k,mode=2∨((s.cells.take k).foldl (stepB mode) (headB s aid, .zero)).2= .zero:=fun k=>foldl_last mode _ _ (.inr rfl)
 obtain ⟨oK,hoK⟩:∃f:Nat→List AV,∀k,f k=seX mode ((s.cells.take k).foldl (stepB mode) (headB s aid, .zero)):=⟨_,fun _=>rfl⟩
 have ho0:seO (headB s aid) .zero mode=oK 0:=by rw[hoK];rfl
 rw[ho0]
 refine codeYK.rangeG follows (st:=st6) (plans:=pl6) (all_iter b2 q p s _) (by simp) (by simp) (by simp[cellA]) (by kernel_rfl) (by kernel_rfl) (by kernel_rfl)
  (fun k ρ _=>ρ=(((σ.upd bt [ptrA z]).upd b2 [ptrA q])).upd z (oK k)) (fun _ _ _=>False)
  _ rfl ?_ ?_ ?_ ?_ ?_
 ·have n1:=Ne.symm v1
  have n2:=Ne.symm v2
  (intro q;simp only[Store.upd,Store.del];(repeat' split)<;>first|exact Or.inr rfl|exact Or.inl rfl|(exfalso;omega)|(left;subst_vars;assumption)|simp_all)
 ·rintro k ρ E hk rfl
  refine ⟨by simp[v2,Ne.symm v2],((h.upd ⟨u1,u2⟩ _).upd ⟨w1,w2⟩ _).upd ⟨y1,y2⟩ _⟩
 ·rintro k hk ρ E rfl
  have hkc:k<s.cells.length:=by omega
  have hat:=at_of h.good hk
  have hcc:s.at (k:Int)=s.cells[k]:=by rw[hat];simp[hkc]
  have hft:=foldl_take (stepB mode) (headB s aid, .zero) s.cells k hkc
  have hok:okC s.cells[k]:=hlook _ (List.getElem_mem hkc)
  have hsc:=fun (ha:s.cells[k].attr=false) τ (hτ:τ z=some (oK k))=>schar_any hm ha (hlast k) (hbig k) (σ:=τ) (by rw[hτ,hoK])
  have hsa:=fun (ha:s.cells[k].attr=true) τ (hτ:τ z=some (oK k))=>sattr_any hm ha (fun _=>hok) (hbig k) (σ:=τ) (by rw[hτ,hoK])
  rw[hcc]
  rw[←hft,←hoK] at hsc hsa
  simp only[cellA_eq] at hsc hsa⊢
  generalize s.cells[k]=c at*
  clear hbig hlast hft hoK hat hcc hb hmb hok
  have hz3:(((σ.upd bt [ptrA z]).upd b2 [ptrA q]).upd z (oK k)) z=some (oK k):=by simp
  have ht3:(((σ.upd bt [ptrA z]).upd b2 [ptrA q]).upd z (oK k)) bt=some [ptrA z]:=by simp[t1,v1,Ne.symm v1]
  have hfin:(((σ.upd bt [ptrA z]).upd b2 [ptrA q]).upd z (oK k)).upd z (oK (k+1))=(((σ.upd bt [ptrA z]).upd b2 [ptrA q]).upd z (oK (k+1))):=by simp
  generalize (((σ.upd bt [ptrA z]).upd b2 [ptrA q]).upd z (oK k))=σ3 at*
  rw[←hfin]
  generalize hA:setPs _ [24,25] _=A1
  have hA8:A1 8=ptrA bt:=by rw[←hA];simp
  have hA25:A1 25=cellA c:=by rw[←hA];simp[cellA_eq]
  clear hA hP2 hfin
  by_cases ha:c.attr=true
  ·replace hsa:=hsa ha
   clear hsc
   rw[ha] at hsa
   simp+contextual [ite_free,hz3,ht3,hA8,hA25,cellA_eq,ha]
   intro b hb
   have n1:¬bt=b:=fun e=>by rw[e,hb] at ht3;cases ht3
   have n2:¬z=b:=fun e=>by rw[e,hb] at hz3;cases hz3
   simp[n1,n2,hz3,ht3,hA8]
   refine callK.of (hsa _ (by simp[n2,hz3])) ?_
   rintro v σ' ⟨rfl,rfl⟩
   simp
   exact sub_box hb n2 rfl
  ·have ha':c.attr=false:=by simpa using ha
   replace hsc:=hsc ha'
   clear hsa
   rw[ha'] at hsc
   simp+contextual [ite_free,hz3,ht3,hA8,hA25,cellA_eq,ha']
   intro b hb
   have n1:¬bt=b:=fun e=>by rw[e,hb] at ht3;cases ht3
   have n2:¬z=b:=fun e=>by rw[e,hb] at hz3;cases hz3
   simp[n1,n2,hz3,ht3,hA8]
   refine callK.of (hsc _ (by simp[n2,hz3])) ?_
   rintro v σ' ⟨rfl,rfl⟩
   simp
   exact sub_box hb n2 rfl
 ·rintro ρ E σ2 hs2 rfl
  have hz2:=sub_at (x:=oK s.n) (b:=z) (by simp) hs2
  have ht2:=sub_at (x:=[ptrA z]) (b:=bt) (by simp[t1,v1,Ne.symm v1]) hs2
  rw[hoK,List.take_of_length_le (by omega)] at hz2
  rw[hmb]
  unfold seX seO at hz2
  have hzn:Store.sub σ (((σ.upd bt [ptrA z]).upd b2 [ptrA q]).upd z (oK s.n)):=by (intro q;simp only[Store.upd,Store.del];(repeat' split)<;>first|exact Or.inr rfl|exact Or.inl rfl|(exfalso;omega)|(left;subst_vars;assumption)|simp_all)
  simp[hz2,ht2]
  exact Store.sub_trans hzn hs2
 ·rintro c ρ E σ2 hs2 hf
  exact hf.elim
end Go.Proofs.YtjnopnpkfhopbaaGreatDoor
namespace Go.Proofs.YtjnopnpkfhopbaaGreatDoor
open Go Go.AL
def small (r:Rp):Prop:=r.es.length≤1000∧∀e∈r.es,e.text.length≤1000
def rpO (o:Bool) (r:Rp):AV:= .agg [byteA r.aid, .lit (.bool r.short), .lit (.int .i64 r.cursor), .list o 2 (ensA r.es)]
def outA (x:List UInt8×Nat):AV:= .tuple [.list true 1 (bytesA x.1), .lit (.int .i64 x.2)]
@[simp] theorem azeroR56:azeroB Tryz.prog true 56=some [.lit (.int .u8 0), .lit (.bool false), .lit (.int .i64 0), .lit (.slice none 0 0)]:=nr (by kernel_rfl)
def hdA (aid:UInt8) (short:Bool) (n:Nat):AV:= .agg [byteA aid, .lit (.bool short), .lit (.int .i64 n), .lit (.slice none 0 0)]
def beginA (p:List UInt8):AV:=match p with
 |[a]=> .tuple [hdA a true 0, .list true 1 [], .lit (.int .i64 0)]
 |a::x::y::rest=>if (decM x y).2≠0 then .tuple [hdA 0 false 0, .list true 1 [], .lit (.int .i64 (decM x y).2)] else .tuple [hdA a false (decM x y).1, .list false 1 (bytesA rest), .lit (.int .i64 0)]
 |_=> .tuple [hdA 0 false 0, .list true 1 [], .lit (.int .i64 2)]
theorem begin_0 (o:Bool) (σ:Store):ACalls Tryz.prog 30 [.list o 1 []] σ fun v σ'=>v= .tuple [hdA 0 false 0, .list true 1 [], .lit (.int .i64 2)]∧σ'=σ:=by
 refine aw st30 pl30 36 Tryz.func30 rfl ?_
 simp[hdA,byteA]
 exact fun p hp=>sub_upd_self _ _ _ hp
theorem begin_1 (o:Bool) (a:UInt8) (σ:Store):ACalls Tryz.prog 30 [.list o 1 [byteA a]] σ fun v σ'=>v= .tuple [hdA a true 0, .list true 1 [], .lit (.int .i64 0)]∧σ'=σ:=by
 refine aw st30 pl30 36 Tryz.func30 rfl ?_
 simp[hdA,pty,tPart]
 exact fun p hp=>sub_upd_self _ _ _ hp
theorem begin_2 (o:Bool) (a b:UInt8) (σ:Store):ACalls Tryz.prog 30 [.list o 1 [byteA a,byteA b]] σ fun v σ'=>v= .tuple [hdA 0 false 0, .list true 1 [], .lit (.int .i64 2)]∧σ'=σ:=by
 refine aw st30 pl30 36 Tryz.func30 rfl ?_
 simp[hdA,byteA]
 exact fun p hp=>sub_upd_self _ _ _ hp
theorem begin_3 (o:Bool) (a x y:UInt8) (rest:List UInt8) (hl:rest.length≤1000000) (σ:Store):ACalls Tryz.prog 30 [.list o 1 (bytesA (a::x::y::rest))] σ fun v σ'=>v=beginA (a::x::y::rest)∧σ'=σ:=by
 have hd:=dec_calls_two false x y rest
 have g0:(bytesA (a::x::y::rest))[0]?=some (byteA a):=rfl
 have gl0:0<(bytesA (a::x::y::rest)).length:=by simp
 have e0:=(List.getElem_eq_iff gl0).2 g0
 have hlen:(bytesA (a::x::y::rest)).length=rest.length+3:=by simp
 have hdr:(bytesA (a::x::y::rest)).drop 1=bytesA (x::y::rest):=rfl
 have hdr3:(bytesA (a::x::y::rest)).drop 3=bytesA rest:=rfl
 show ACalls Tryz.prog 30 [.list o 1 (bytesA (a::x::y::rest))] σ fun v σ'=>v=(if (decM x y).2≠0 then .tuple [hdA 0 false 0, .list true 1 [], .lit (.int .i64 (decM x y).2)] else .tuple [hdA a false (decM x y).1, .list false 1 (bytesA rest), .lit (.int .i64 0)])∧σ'=σ
 generalize bytesA (a::x::y::rest)=L at*
 obtain ⟨n,e,hne⟩:∃n e,decM x y=(n,e):=⟨_,_,rfl⟩
 rw[hne] at hd⊢
 have n0:¬L=[]:=fun h=>by rw[h] at hlen;simp at hlen
 have n1:¬(L.length:Int)=1:=by omega
 have n2:¬(L.length:Int)=2:=by omega
 have k0:0<L.length:=by omega
 have k1:1≤L.length:=by omega
 have k3:3≤L.length:=by omega
 by_cases he:e=0
 ·subst he
  refine aw st30 pl30 36 Tryz.func30 rfl ?_
  simp[n0,n1,n2,k1,hdr]
  intro p hp
  refine callK.of (hd _) ?_
  rintro v σ' ⟨rfl,rfl⟩
  simp[k0,k3,hdr3,e0,hdA,pty,tPart]
  (intro q;simp only[Store.upd,Store.del];(repeat' split)<;>simp_all)
 ·have he':¬(e:Int)=0:=by omega
  refine aw st30 pl30 36 Tryz.func30 rfl ?_
  simp[n0,n1,n2,k1,hdr]
  intro p hp
  refine callK.of (hd _) ?_
  rintro v σ' ⟨rfl,rfl⟩
  simp[he,hdA,byteA]
  (intro q;simp only[Store.upd,Store.del];(repeat' split)<;>simp_all)
theorem begin_calls (o:Bool) (p:List UInt8) (hl:p.length≤1000000) (σ:Store):ACalls Tryz.prog 30 [.list o 1 (bytesA p)] σ fun v σ'=>v=beginA p∧σ'=σ:=by
 rcases p with _|⟨a,_|⟨x,_|⟨y,rest⟩⟩⟩
 ·exact begin_0 o σ
 ·exact begin_1 o a σ
 ·exact begin_2 o a x σ
 ·exact begin_3 o a x y rest (by simp at hl;omega) σ
end Go.Proofs.YtjnopnpkfhopbaaGreatDoor
