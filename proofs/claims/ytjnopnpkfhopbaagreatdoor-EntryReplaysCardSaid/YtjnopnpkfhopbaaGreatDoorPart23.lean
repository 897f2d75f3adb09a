/-
 All cells of a buffer that was sent, as the host reads them.
-/
import Derived.Test.YtjnopnpkfhopbaaGreatDoorPart22
set_option linter.unusedSimpArgs false
set_option linter.unusedVariables false
set_option maxRecDepth 8000
set_option maxHeartbeats 8000000
namespace Go.Proofs.YtjnopnpkfhopbaaGreatDoor
open Go Go.AL Go.Sp
theorem appliedT_succ (c:Cell) (l:List (UInt8×UInt8)) (i:Nat) (h:i<l.length):appliedT c (l.take (i+1))=applyP (appliedT c (l.take i)) l[i].1 l[i].2:=by
 unfold appliedT
 rw[List.take_succ_eq_append_getElem h,List.foldl_append];rfl
@[simp] def st32x:List Nat:=[5000006,4000016,5000007,4000023]
theorem look_calls (o:Bool) (c:Cell) (l:List (UInt8×UInt8)) (hl:l.length≤1000000000) (hp:allP l) (σ:Store):ACalls Tryz.prog 32 [cellA c, .list o 2 (pairsA l)] σ fun v σ'=>v=cellA (appliedT c l)∧σ'=σ:=by
 rw[cellA_eq c]
 refine aw st32x pl32 26 Tryz.func32 rfl ?_
 have hpl:=pairsA_length l
 simp[hpl]
 intro b2 hb2 b4 hb4
 simp only[ite_none] at hb4
 obtain ⟨n1,hb4⟩:=hb4
 have n2:=Ne.symm n1
 have ht0:appliedT c (l.take 0)=c:=rfl
 refine codeK.loop follows (st:=st32x) (plans:=pl32) (X:=Nat) (fun i=>i≤l.length)
  (fun i=>[(2,ptrA b2),(4,ptrA b4),(9, .list false 2 (pairsA l)),(10, .lit (.int .i64 l.length)),(11, .lit (.int .i64 i))])
  (fun i=>(σ.upd b2 (cellC (appliedT c (l.take i)))).upd b4 [.lit (.int .u8 0), .lit (.bool false), .lit (.int .u8 0), .lit (.int .u8 0), .lit (.int .u8 0), .lit (.int .u8 0)]) (fun i=>l.length-i) 0 (by kernel_rfl) (by simp) (by simp) (by rw[ht0,cellC_eq];exact Store.sub_refl _) fun i hi=> ?_
 by_cases hlt:i<l.length
 ·have hw:IntKind.i64.wrap ((i:Int)+1)=((i+1:Nat):Int):=wrap_i64 (by omega) (by omega)
  have hg:=pairsA_at l i hlt
  have hx:=hp _ (List.getElem_mem hlt)
  have hs:=appliedT_succ c l i hlt
  generalize appliedT c (l.take i)=d at*
  generalize hst:appliedT c (l.take (i+1))=e at hs
  generalize l[i]=y at*
  have hap:=fun τ=>apply_calls d y.1 y.2 τ
  rw[if_pos hx,hx,←hs,cellA_eq d,cellA_eq e] at hap
  rw[cellC_eq d]
  simp[hlt,hpl,hg,n2]
  intro b7 hb7
  simp only[ite_none] at hb7
  obtain ⟨m1,m2,hb7⟩:=hb7
  have m3:=Ne.symm m1
  have m4:=Ne.symm m2
  rw[del_upd_new (by simp[m1,m2,hb7])]
  simp[m4]
  refine callK.eq (hap _) ?_
  simp[n2]
  intro b8 hb8
  simp only[ite_none] at hb8
  obtain ⟨k1,k2,hb8⟩:=hb8
  have k3:=Ne.symm k1
  have k4:=Ne.symm k2
  rw[del_upd_new (by simp[k1,k2,hb8])]
  simp[k4,n2]
  refine ⟨i+1,by omega,by omega,by rw[hw];exact AV.le_refl _, ?_⟩
  rw[hst,cellC_eq]
  (intro q;simp only[Store.upd,Store.del];(repeat' split)<;>first|exact Or.inr rfl|exact Or.inl rfl|(exfalso;omega)|(left;subst_vars;assumption)|simp_all)
 ·obtain rfl:i=l.length:=by omega
  rw[List.take_length,cellC_eq,cellA_eq]
  simp[n2]
  (intro q;simp only[Store.upd,Store.del];(repeat' split)<;>first|exact Or.inr rfl|exact Or.inl rfl|(exfalso;omega)|(left;subst_vars;assumption)|simp_all)
@[simp] def st8x:List Nat:=[26,38,86,91,96,5000005,5000013,4000029,4000098,4000048,4000053,4000061,4000066,4000073,4000078]
def cellsA (l:List Cell):List AV:=l.map cellA
theorem cellsA_app (l k:List Cell):cellsA (l++k)=cellsA l++cellsA k:=by simp[cellsA]
@[simp] theorem cellsA_length (l:List Cell):(cellsA l).length=l.length:=by simp[cellsA]
theorem bufT_len (s:List Cell×Cell) (o:Op):(bufT s o).1.length≤s.1.length+(1+o.text.length):=by
 unfold bufT
 (repeat' split)<;>simp<;>omega
theorem foldl_bufT_len:∀(os:List Op) (s:List Cell×Cell) (n:Nat),(∀o∈os,o.text.length≤n)→(os.foldl bufT s).1.length≤s.1.length+os.length*(1+n)
 |[],_,_,_=>by simp
 |o::os,s,n,h=>by
  have h1:=bufT_len s o
  have h2:=h o (by simp)
  have h3:=foldl_bufT_len os (bufT s o) n fun x hx=>h x (by simp[hx])
  rw[List.foldl_cons,List.length_cons,Nat.add_mul]
  omega
structure BufIn (p:List UInt8) (os:List Op) (n:Nat):Prop where
 long:p.length≤100000
 head:∃a x y rest,p=a::x::y::rest∧decM x y=(n,0)∧allF rest=(os,0)
 fine:∀o∈os,opFine o
 texts:∀o∈os,o.text.length≤100000∧o.pairs.length≤1000
theorem opA_eq (o:Op):opA o= .agg [.lit (.int .i64 o.kind), .lit (.int .i64 o.addr),byteA o.code, .lit (.bool o.graph),byteA o.fa, .list false 2 (pairsA o.pairs), .list false 1 (bytesA o.text)]:=rfl
theorem ebuffer_calls (ow:Bool) {p:List UInt8} {os:List Op} {n:Nat} (h:BufIn p os n) (σ:Store):
  ACalls Tryz.prog 8 [.list ow 1 (bytesA p)] σ fun v σ'=>v= .tuple [.list true 6 (cellsA (os.foldl bufT ([], .zero)).1), .lit (.int .i64 n), .lit (.int .i64 0)]∧σ'=σ:=by
 obtain ⟨hlong,⟨a,x,y,rest,rfl,hdec,hall⟩,hfine,htx⟩:=h
 have hbg:=fun σ=>begin_3 false a x y rest (by simp at hlong;omega) σ
 have hbA:beginA (a::x::y::rest)= .tuple [hdA a false n, .list false 1 (bytesA rest), .lit (.int .i64 0)]:=by
  show (if (decM x y).2≠0 then _ else _)=_
  rw[hdec];rfl
 rw[hbA] at hbg
 have hh:hdA a false n= .agg [byteA a, .lit (.bool false), .lit (.int .i64 n), .lit (.slice none 0 0)]:=rfl
 rw[hh] at hbg
 have hoc:os.length≤100000:=by
  have:=allF_count rest
  rw[hall] at this
  simp at hlong;dsimp only at this;omega
 have hbig:∀k,((os.take k).foldl bufT ([], .zero)).1.length≤10000100000:=fun k=>by
  have h1:=foldl_bufT_len (os.take k) ([], .zero) 100000 fun o ho=>(htx o (List.mem_of_mem_take ho)).1
  have h2:(os.take k).length≤os.length:=by simp;omega
  have h3:(os.take k).length*(1+100000)≤100000*100001:=Nat.mul_le_mul (by omega) (by omega)
  simp only[List.length_nil] at h1
  omega
 refine aw st8x pl8 99 Tryz.func8 rfl ?_
 simp
 refine callK.eq (hbg _) ?_
 simp
 intro p5 hp5
 rw[del_upd_new hp5]
 refine callK.of (all_calls false rest _ (by simp at hlong;omega)) ?_
 rintro v τ ⟨ow2,os2,m2,e2,rfl,rfl,hA,_⟩
 have hA2:=hA.fn
 rw[hall] at hA2
 obtain ⟨rfl,rfl⟩:os2=os∧e2=0:=by
  have:=Prod.mk.inj hA2;exact ⟨this.1.symm,this.2.symm⟩
 have hoL:(opsA os2).length=os2.length:=by simp[opsA]
 simp[hoL]
 intro p11 hp11
 have ht0:(os2.take 0).foldl bufT ([], .zero)=([], .zero):=rfl
 have hC0:cellsA []=[]:=rfl
 obtain ⟨S,hS⟩:∃S:Nat→List Cell×Cell,∀k,S k=(os2.take k).foldl bufT ([], .zero):=⟨_,fun _=>rfl⟩
 have hS0:S 0=([], .zero):=hS 0
 have hSn:S os2.length=os2.foldl bufT ([], .zero):=by rw[hS,List.take_length]
 have hSs:∀i (h:i<os2.length),S (i+1)=bufT (S i) os2[i]:=fun i h=>by rw[hS,hS,List.take_succ_eq_append_getElem h,List.foldl_append];rfl
 have hSb:∀k,(S k).1.length≤10000100000:=fun k=>by rw[hS];exact hbig k
 rw[←hSn]
 clear hS hbig hSn ht0 hall hA hA2 hbg hbA hh
 refine codeK.loop follows (st:=st8x) (plans:=pl8) (X:=Nat) (fun i=>i≤os2.length)
  (fun i=>[(5, .fptr [byteA a, .lit (.bool false), .lit (.int .i64 n), .lit (.slice none 0 0)]),(10, .list true 6 (cellsA (S i).1)),(11,ptrA p11),(40, .list false 7 (opsA os2)),(41, .lit (.int .i64 os2.length)),(42, .lit (.int .i64 i))])
  (fun i=>τ.upd p11 (cellC (S i).2)) (fun i=>os2.length-i) 0 (by kernel_rfl) (by simp) (by simp[hS0,hC0]) (by rw[hS0];exact Store.sub_refl _) fun i hi=> ?_
 by_cases hlt:i<os2.length
 ·have hw:IntKind.i64.wrap ((i:Int)+1)=((i+1:Nat):Int):=wrap_i64 (by omega) (by omega)
  have hg:=opsA_get os2 i hlt
  have hfi:=hfine _ (List.getElem_mem hlt)
  have htxi:=htx _ (List.getElem_mem hlt)
  have hs:=hSs i hlt
  have hb0:=hSb i
  have hb1:=hSb (i+1)
  generalize S i=s at*
  generalize hst:S (i+1)=t at*
  rw[opA_eq] at hg
  generalize os2[i]=op at*
  obtain ⟨cs,now⟩:=s
  obtain ⟨kind,addr,code,graph,fa,pairs,text⟩:=op
  obtain ⟨hk,hp⟩:=hfi
  dsimp only at hk hp htxi hb0 hg⊢
  rcases hk with rfl|rfl|rfl|rfl|rfl
  ·have ht:t=(cs++text.map (fun b=> {now with char:=b}),now):=hs
   rw[cellC_eq now]
   simp[hlt,hoL,hg]
   intro p13 hp13
   simp only[ite_none] at hp13
   obtain ⟨n13,hp13⟩:=hp13
   rw[del_upd_new (by simp[n13,hp13])]
   simp[Ne.symm n13]
   intro p14 hp14
   simp only[ite_none] at hp14
   obtain ⟨n14,hp14⟩:=hp14
   have m14:=Ne.symm n14
   obtain ⟨Rw,hRw⟩:∃f:Nat→List AV,∀j,f j=cellsA (cs++(text.take j).map fun b=> {now with char:=b}):=⟨_,fun _=>rfl⟩
   have hR0:cellsA cs=Rw 0:=by rw[hRw];simp
   have hRn:Rw text.length=cellsA t.1:=by rw[hRw,ht,List.take_length]
   have hRl:∀j,(Rw j).length≤10000200000:=fun j=>by
    rw[hRw,cellsA_length,List.length_append,List.length_map,List.length_take];omega
   have hRs:∀j (hj:j<text.length),Rw (j+1)=Rw j++[.agg [byteA text[j], .lit (.bool now.attr),byteA now.fa,byteA now.high,byteA now.color,byteA now.set]]:=fun j hj=>by
    rw[hRw,hRw,List.take_succ_eq_append_getElem hj,List.map_append,←List.append_assoc,cellsA_app];rfl
   clear hRw
   refine codeK.loop follows (st:=st8x) (plans:=pl8) (X:=Nat×UInt8) (fun x=>x.1≤text.length)
    (fun x=>[(5, .fptr [byteA a, .lit (.bool false), .lit (.int .i64 n), .lit (.slice none 0 0)]),(10, .list true 6 (Rw x.1)),(11,ptrA p11),(14,ptrA p14),(40, .list false 7 (opsA os2)),(41, .lit (.int .i64 os2.length)),(42, .lit (.int .i64 i)),(78, .list false 1 (bytesA text)),(79, .lit (.int .i64 text.length)),(80, .lit (.int .i64 x.1))])
    (fun x=>(τ.upd p11 (cellC now)).upd p14 (cellC {now with char:=x.2})) (fun x=>text.length-x.1) (0,now.char) (by kernel_rfl) (by simp) (by simp[hR0]) (by simp only[cellC_eq];exact Store.sub_refl _) fun x hx=> ?_
   obtain ⟨j,ch⟩:=x
   dsimp only at hx⊢
   by_cases hj:j<text.length
   ·have hwj:IntKind.i64.wrap ((j:Int)+1)=((j+1:Nat):Int):=wrap_i64 (by omega) (by omega)
    have hgt:(bytesA text)[j]'(by simpa using hj)=byteA text[j]:=by simp[bytesA]
    have hrow:=hRs j hj
    have hrl:=hRl j
    generalize hR1:Rw (j+1)=R1 at hrow
    generalize Rw j=R0 at*
    generalize hcj:text[j]=cj at*
    rw[cellC_eq now,cellC_eq {now with char:=ch}]
    simp[hj,hgt,n14,m14]
    refine ⟨by omega,by omega,j+1,by omega,by omega,⟨?_,by rw[hwj];exact AV.le_refl _⟩,cj, ?_⟩
    ·rw[hR1,hrow];exact AV.le_refl _
    ·simp only[cellC_eq];(intro q;simp only[Store.upd,Store.del];(repeat' split)<;>first|exact Or.inr rfl|exact Or.inl rfl|(exfalso;omega)|(left;subst_vars;assumption)|simp_all)
   ·obtain rfl:j=text.length:=by omega
    rw[cellC_eq now,cellC_eq {now with char:=ch},hRn]
    simp
    refine ⟨i+1,by omega,by omega,⟨?_,by rw[hw];exact AV.le_refl _⟩, ?_⟩
    ·rw[hst];exact AV.le_refl _
    ·rw[hst,ht];simp only[cellC_eq];(intro q;simp only[Store.upd,Store.del];(repeat' split)<;>first|exact Or.inr rfl|exact Or.inl rfl|(exfalso;omega)|(left;subst_vars;assumption)|simp_all)
  ·have ht:t=(cs++[{now with char:=code,set:=0xf1}],now):=hs
   rw[cellC_eq now]
   simp[hlt,hoL,hg]
   intro p13 hp13
   simp only[ite_none] at hp13
   obtain ⟨n13,hp13⟩:=hp13
   rw[del_upd_new (by simp[n13,hp13])]
   simp[Ne.symm n13]
   intro p14 hp14
   simp only[ite_none] at hp14
   obtain ⟨n14,hp14⟩:=hp14
   have m14:=Ne.symm n14
   refine ⟨by omega,by omega,i+1,by omega,by omega,⟨?_,by rw[hw];exact AV.le_refl _⟩, ?_⟩
   ·rw[hst,ht,cellsA_app];exact AV.le_refl _
   ·rw[hst,ht,cellC_eq];(intro q;simp only[Store.upd,Store.del];(repeat' split)<;>first|exact Or.inr rfl|exact Or.inl rfl|(exfalso;omega)|(left;subst_vars;assumption)|simp_all)
  ·have ht:t=(cs,appliedT now pairs):=hs
   have hlk:=fun τ=>look_calls false now pairs (by omega) hp τ
   rw[cellA_eq now,cellA_eq] at hlk
   rw[cellC_eq now]
   simp[hlt,hoL,hg]
   intro p13 hp13
   simp only[ite_none] at hp13
   obtain ⟨n13,hp13⟩:=hp13
   rw[del_upd_new (by simp[n13,hp13])]
   simp[Ne.symm n13]
   intro p14 hp14
   simp only[ite_none] at hp14
   obtain ⟨n14,hp14⟩:=hp14
   have m14:=Ne.symm n14
   refine callK.eq (hlk _) ?_
   simp[n14,m14]
   refine ⟨i+1,by omega,by omega,⟨?_,by rw[hw];exact AV.le_refl _⟩, ?_⟩
   ·rw[hst,ht];exact AV.le_refl _
   ·rw[hst,ht,cellC_eq];(intro q;simp only[Store.upd,Store.del];(repeat' split)<;>first|exact Or.inr rfl|exact Or.inl rfl|(exfalso;omega)|(left;subst_vars;assumption)|simp_all)
  ·have ht:t=(cs++[appliedT {attr:=true} [(192,fa)]],now):=hs
   have hlk:=fun τ=>look_calls true {attr:=true} [(192,fa)] (by simp) (by intro x hx;rw[List.mem_singleton.1 hx];unfold chkE;exact if_pos (.inr (.inl rfl))) τ
   have ez:cellA {attr:=true} = .agg [.lit (.int .u8 0), .lit (.bool true), .lit (.int .u8 0), .lit (.int .u8 0), .lit (.int .u8 0), .lit (.int .u8 0)]:=rfl
   have ep:pairsA [(192,fa)]=[.agg [.lit (.int .u8 192),byteA fa]]:=rfl
   rw[ez,ep,cellA_eq] at hlk
   rw[cellC_eq now]
   simp[hlt,hoL,hg]
   intro p13 hp13
   simp only[ite_none] at hp13
   obtain ⟨n13,hp13⟩:=hp13
   rw[del_upd_new (by simp[n13,hp13])]
   simp[Ne.symm n13]
   intro p14 hp14
   simp only[ite_none] at hp14
   obtain ⟨n14,hp14⟩:=hp14
   have m14:=Ne.symm n14
   refine callK.eq (hlk _) ?_
   simp[n14,m14]
   refine ⟨by omega,by omega,i+1,by omega,by omega,⟨?_,by rw[hw];exact AV.le_refl _⟩, ?_⟩
   ·rw[hst,ht,cellsA_app];exact AV.le_refl _
   ·rw[hst,ht,cellC_eq];(intro q;simp only[Store.upd,Store.del];(repeat' split)<;>first|exact Or.inr rfl|exact Or.inl rfl|(exfalso;omega)|(left;subst_vars;assumption)|simp_all)
  ·have ht:t=(cs++[appliedT {attr:=true} pairs],now):=hs
   have hlk:=fun τ=>look_calls false {attr:=true} pairs (by omega) hp τ
   have ez:cellA {attr:=true} = .agg [.lit (.int .u8 0), .lit (.bool true), .lit (.int .u8 0), .lit (.int .u8 0), .lit (.int .u8 0), .lit (.int .u8 0)]:=rfl
   rw[ez,cellA_eq] at hlk
   rw[cellC_eq now]
   simp[hlt,hoL,hg]
   intro p13 hp13
   simp only[ite_none] at hp13
   obtain ⟨n13,hp13⟩:=hp13
   rw[del_upd_new (by simp[n13,hp13])]
   simp[Ne.symm n13]
   intro p14 hp14
   simp only[ite_none] at hp14
   obtain ⟨n14,hp14⟩:=hp14
   have m14:=Ne.symm n14
   refine callK.eq (hlk _) ?_
   simp[n14,m14]
   refine ⟨by omega,by omega,i+1,by omega,by omega,⟨?_,by rw[hw];exact AV.le_refl _⟩, ?_⟩
   ·rw[hst,ht,cellsA_app];exact AV.le_refl _
   ·rw[hst,ht,cellC_eq];(intro q;simp only[Store.upd,Store.del];(repeat' split)<;>first|exact Or.inr rfl|exact Or.inl rfl|(exfalso;omega)|(left;subst_vars;assumption)|simp_all)
 ·obtain rfl:i=os2.length:=by omega
  simp
  exact sub_upd_self _ _ _ hp11
def NeedF (b q p:Nat) (S:Nat→Sp) (k:Nat) (τ:Store):Prop:=τ b=some [ptrA q]∧Prg τ q p (S k)
theorem needF_mono {b q p:Nat} {S:Nat→Sp} {k:Nat} {τ τ':Store} (h:NeedF b q p S k τ) (hs:Store.sub τ τ'):NeedF b q p S k τ':=
 ⟨sub_at h.1 hs,prg_mono h.2 hs⟩
structure Fam (S:Nat→Sp):Prop where
 good:∀k,(S k).good
 n:∀k,(S k).n=(S 0).n
 attr:∀k i,attrAt (S k).cells i=attrAt (S 0).cells i
theorem Fam.attrs {S:Nat→Sp} (h:Fam S) (k:Nat):(S k).attrs=(S 0).attrs:=by
 rw[attrs_eq _ (h.good k),attrs_eq _ (h.good 0),h.n k]
 congr 1
 funext i;exact h.attr k i
theorem all_iterF (b q p:Nat) (S:Nat→Sp) (N:Nat) (hN:∀k,(S k).n=N) (σ:Store):IterG Tryz.prog 52 [ptrA b] σ N (NeedF b q p S) fun k _=>[.lit (.int .i64 (k:Nat)),cellA ((S k).at k)]:=by
 refine ⟨fun k τ τ' h hs=>⟨needF_mono h hs,rfl⟩,fun X l I J hneed hy τ E h0 hs=> ?_⟩
 obtain ⟨hb,hP⟩:=needF_mono (hneed 0 τ E (Nat.zero_le _) h0) hs
 have hsz:=size_calls hP
 have hcl:=scells_calls (S 0)
 rw[hN] at hcl
 have hn:=(S 0).n_le
 rw[hN] at hn
 refine ACallsY.of_awp follows (st:=st52) (plans:=pl52) (n:=18) Tryz.func52 rfl (by kernel_rfl) (by kernel_rfl) (by kernel_rfl) ?_
 simp[hb]
 refine callK.of hsz ?_
 rintro v σ' ⟨rfl,rfl⟩
 simp
 refine callK.of (hcl _) ?_
 rintro v σ' ⟨rfl,rfl⟩
 simp
 refine codeYK.loop follows (st:=st52) (plans:=pl52) (S:=Nat×Store) (fun x=>x.1≤N)
  (fun x=>[(0, .func (.yield l) [] []),(1,ptrA b),(6, .lit (.int .i64 N)),(7, .lit (.int .i64 x.1))]) (fun x=>x.2) (fun x E=>I x.1 x.2 E) (fun x=>N-x.1) (0,τ) (by kernel_rfl) (by simp) (by simp) hs h0 ?_
 rintro ⟨k,τ1⟩ E1 hk hI
 dsimp only at hk hI⊢
 obtain ⟨hb1,hP1⟩:=hneed k τ1 E1 hk hI
 by_cases hlt:k<N
 ·have hat:=at_calls hP1 (k:Int)
  have hw:IntKind.i64.wrap ((k:Int)+1)=((k+1:Nat):Int):=wrap_i64 (by omega) (by omega)
  have hyk:=hy k hlt τ1 E1 hI
  simp only[cellA_eq] at hat hyk
  simp[hlt,hb1]
  refine callK.of hat ?_
  rintro v σ' ⟨rfl,rfl⟩
  simp
  refine yieldK.of (by simp) hyk (Store.sub_refl _) ?_
  intro b2 τ' E' hR hap
  cases b2
  ·simp
   exact ⟨⟨_,AV.le_refl _⟩,_,Store.sub_over _ _ _,τ',Store.sub_refl _, .inr (by simpa using hR)⟩
  ·simp
   refine ⟨k+1,by omega,by omega,by rw[hw];exact AV.le_refl _,τ',Store.sub_over _ _ _,by simpa using hR⟩
 ·obtain rfl:k=N:=by omega
  simp
  exact ⟨⟨_,AV.le_refl _⟩,_,Store.sub_refl _,τ1,Store.sub_refl _, .inl hI⟩
theorem attrs_iterF (b q p:Nat) (S:Nat→Sp) (hF:Fam S) (σ:Store):IterG Tryz.prog 111 [ptrA b] σ (S 0).attrs.length (NeedF b q p S) fun k _=>[.lit (.int .i64 ((S 0).attrs[k]?.getD 0:Nat))]:=by
 refine ⟨fun k τ τ' h hs=>⟨needF_mono h hs,rfl⟩,fun X l I J hneed hy τ E h0 hs=> ?_⟩
 have hN0:=hneed 0 τ E (Nat.zero_le _) h0
 obtain ⟨hb,hP⟩:=needF_mono hN0 hs
 have hg:=hF.good 0
 have hae:=attrs_eq (S 0) hg
 have hc0:=cntP_zero (isAt (S 0)) (List.range (S 0).n)
 have hcN:=cntP_all (isAt (S 0)) (List.range (S 0).n)
 rw[List.length_range,←hae] at hcN
 refine ACallsY.of_awp follows (st:=st111) (plans:=pl111) (n:=17) Tryz.func111 rfl (by kernel_rfl) (by kernel_rfl) (by kernel_rfl) ?_
 simp[hb]
 intro y hyn
 have hby:¬b=y:=by rintro rfl;rw[hb] at hyn;cases hyn
 simp[hby]
 refine callK.of (all_calls2 q _) ?_
 rintro v σ' ⟨b2,hb2,rfl,rfl⟩
 simp only[supd_apply,ite_none] at hb2
 obtain ⟨e1,hb2⟩:=hb2
 have tn:∀o:Nat,σ o=none→τ o=none:=fun o ho=>by
  rcases hs o with h|h
  ·exact h
  ·rw[h,ho]
 simp
 have hB0:Beside τ ((τ.upd b2 [ptrA q]).upd y [.func (.yield l) [] []]) b2 y (ptrA q) (.func (.yield l) [] []):=⟨tn _ hb2,tn _ hyn,e1,rfl⟩
 refine codeYK.rangeG follows (st:=st111) (plans:=pl111) (all_iterF b2 q p (fun k=>S (cntP (isAt (S 0)) (List.range (S 0).n) k)) (S 0).n (fun k=>hF.n _) _) (by simp) (by simp) (by simp) (by kernel_rfl) (by kernel_rfl) (by kernel_rfl)
  (fun k ρ E=>∃τ,I (cntP (isAt (S 0)) (List.range (S 0).n) k) τ E∧Beside τ ρ b2 y (ptrA q) (.func (.yield l) [] [])) (fun c ρ E=>c= .ret∧∃τ,J τ E∧Store.sub τ ρ)
  _ ⟨τ,by rw[hc0];exact h0,hB0⟩ ?_ ?_ ?_ ?_ ?_
 ·refine Store.sub2 (fun o=> ?_) (fun i=>by simpa using hs (mkey i))
  simp only[supd_apply]
  by_cases h1:o=y
  ·subst h1;right;simp[Ne.symm e1]
  ·by_cases h2:o=b2
   ·subst h2;right;simp[h1]
   ·simp only[if_neg h1,if_neg h2];exact hs o
 ·rintro k ρ E hk ⟨τ1,hI,hB⟩
  have hle:cntP (isAt (S 0)) (List.range (S 0).n) k≤(S 0).attrs.length:=by
   rw[hae];exact (List.Sublist.filter _ (List.take_sublist _ _)).length_le
  have:=hneed _ τ1 E hle hI
  refine ⟨?_,prg_mono this.2 hB.sub⟩
  rw[hB.eq];simp[e1]
 ·rintro k hk ρ E ⟨τ1,hI,hB⟩
  have hkr:k<(List.range (S 0).n).length:=by simpa using hk
  have hgk:(List.range (S 0).n)[k]=k:=by simp
  have hρy:ρ y=some [.func (.yield l) [] []]:=by rw[hB.eq];simp
  have hcs:=cntP_yes (P:=isAt (S 0)) hkr
  have hcn:=cntP_no (P:=isAt (S 0)) hkr
  generalize hj:cntP (isAt (S 0)) (List.range (S 0).n) k=j at*
  have hat:((S j).at (k:Int)).attr=isAt (S 0) k:=by
   rw[attrAt_at (by rw[hF.n];exact hk),hF.attr];rfl
  generalize (S j).at (k:Int)=d at*
  by_cases ha:isAt (S 0) k=true
  ·obtain ⟨c1,c2,c3⟩:=hcs (by rw[hgk];exact ha)
   rw[←hae] at c2 c3
   rw[hgk] at c3
   have hyk:=hy _ c2 τ1 E hI
   rw[c3] at hyk
   rw[←c1] at hyk
   have hca:d.attr=true:=by rw[hat];exact ha
   simp+contextual [cellA,cellC,hca]
   intro c hc
   have hyc:¬y=c:=by rintro rfl;rw[hρy] at hc;cases hc
   simp[hρy,hyc]
   have hcur:Store.sub ρ (ρ.upd c [byteA d.char, .lit (.bool true),byteA d.fa,byteA d.high,byteA d.color,byteA d.set]):=Store.sub_upd hc (Store.sub_refl _)
   refine yieldK.of (args':=[.lit (.int .i64 (k:Nat))]) (by simp) hyk (Store.sub_trans hB.sub hcur) ?_
   intro b3 τ' E' hR hap
   cases b3
   ·simp
    exact ⟨_,Store.sub_refl _,τ',by simpa using hR,Store.sub_over _ _ _⟩
   ·simp
    obtain ⟨ρ',h1,h2⟩:=hB.next hcur hap
    exact ⟨ρ',h1,τ',by simpa using hR,h2⟩
  ·have ha':isAt (S 0) k=false:=by simpa using ha
   have c1:=hcn (by rw[hgk];exact ha')
   have hca:d.attr=false:=by rw[hat];exact ha'
   simp+contextual [cellA,cellC,hca]
   intro c hc
   exact ⟨ρ,Store.sub_upd hc (Store.sub_refl _),τ1,by rw[c1];exact hI,hB⟩
 ·rintro ρ E2 σ2 hs2 ⟨τ1,hI,hB⟩
  rw[hcN] at hI
  simp
  exact ⟨⟨_,AV.le_refl _⟩,_,Store.sub_refl _,τ1,Store.sub_trans hB.sub hs2, .inl hI⟩
 ·rintro c ρ E2 σ2 hs2 ⟨rfl,τ1,hJ,hsub⟩
  simp
  exact ⟨⟨_,AV.le_refl _⟩,_,Store.sub_refl _,τ1,Store.sub_trans hsub hs2, .inr hJ⟩
def atFldF (S:Nat→Sp) (k:Nat):Nat×Fld:=((S 0).attrs[k]?.getD 0,fld (((S k).cells[(S 0).attrs[k]?.getD 0]?.getD .zero).fa))
theorem fields_iterF (b q p:Nat) (S:Nat→Sp) (hF:Fam S) (σ:Store):IterG Tryz.prog 102 [ptrA b] σ (S 0).attrs.length (NeedF b q p S) fun k _=>[.lit (.int .i64 ((atFldF S k).1:Nat)),fldA (atFldF S k).2]:=by
 refine ⟨fun k τ τ' h hs=>⟨needF_mono h hs,rfl⟩,fun X l I J hneed hy τ E h0 hs=> ?_⟩
 have hN0:=hneed 0 τ E (Nat.zero_le _) h0
 obtain ⟨hb,hP⟩:=needF_mono hN0 hs
 have hg:=hF.good 0
 refine ACallsY.of_awp follows (st:=st102) (plans:=pl106t) (n:=16) Tryz.func102 rfl (by kernel_rfl) (by kernel_rfl) (by kernel_rfl) ?_
 simp[hb]
 intro y hyn
 have hby:¬b=y:=by rintro rfl;rw[hb] at hyn;cases hyn
 simp[hby]
 refine callK.of (attrs_calls2 q _) ?_
 rintro v σ' ⟨b2,hb2,rfl,rfl⟩
 simp only[supd_apply,ite_none] at hb2
 obtain ⟨e1,hb2⟩:=hb2
 have tn:∀o:Nat,σ o=none→τ o=none:=fun o ho=>by
  rcases hs o with h|h
  ·exact h
  ·rw[h,ho]
 simp
 have hB0:Beside τ ((τ.upd b2 [ptrA q]).upd y [.func (.yield l) [] []]) b2 y (ptrA q) (.func (.yield l) [] []):=⟨tn _ hb2,tn _ hyn,e1,rfl⟩
 refine codeYK.rangeG follows (st:=st102) (plans:=pl106t) (attrs_iterF b2 q p S hF _) (by simp) (by simp) (by simp) (by kernel_rfl) (by kernel_rfl) (by kernel_rfl)
  (fun k ρ E=>∃τ,I k τ E∧Beside τ ρ b2 y (ptrA q) (.func (.yield l) [] [])) (fun c ρ E=>c= .ret∧∃τ,J τ E∧Store.sub τ ρ)
  _ ⟨τ,h0,hB0⟩ ?_ ?_ ?_ ?_ ?_
 ·refine Store.sub2 (fun o=> ?_) (fun i=>by simpa using hs (mkey i))
  simp only[supd_apply]
  by_cases h1:o=y
  ·subst h1;right;simp[Ne.symm e1]
  ·by_cases h2:o=b2
   ·subst h2;right;simp[h1]
   ·simp only[if_neg h1,if_neg h2];exact hs o
 ·rintro k ρ E hk ⟨τ1,hI,hB⟩
  have:=hneed _ τ1 E hk hI
  refine ⟨?_,prg_mono this.2 hB.sub⟩
  rw[hB.eq];simp[e1]
 ·rintro k hk ρ E ⟨τ1,hI,hB⟩
  have hyk:=hy _ hk τ1 E hI
  have hNe:=hneed _ τ1 E (Nat.le_of_lt hk) hI
  have hPr:=prg_mono hNe.2 hB.sub
  have hρb:=sub_at hNe.1 hB.sub
  have hρy:ρ y=some [.func (.yield l) [] []]:=by rw[hB.eq];simp
  have hm:(S 0).attrs[k]?.getD 0∈(S 0).attrs:=by
   rw[List.getElem?_eq_getElem hk];exact List.getElem_mem hk
  obtain ⟨m1,m2⟩:=mem_attrs hm
  rw[hg.len] at m1
  have hat:=at_calls hPr (((S 0).attrs[k]?.getD 0:Nat):Int)
  have hae:=at_of (hF.good k) (i:=(S 0).attrs[k]?.getD 0) (by rw[hF.n];exact m1)
  have hof:=of_calls (((S k).at (((S 0).attrs[k]?.getD 0:Nat):Int)).fa)
  have hF2:(atFldF S k).2=fld (((S k).at (((S 0).attrs[k]?.getD 0:Nat):Int)).fa):=by rw[hae];rfl
  have hF1:(atFldF S k).1=(S 0).attrs[k]?.getD 0:=rfl
  rw[hF2,hF1] at hyk
  generalize (S 0).attrs[k]?.getD 0=a at*
  generalize (S k).at (a:Int)=c at*
  simp only[cellA_eq] at hat
  have hfa:∀f:Fld,fldA f= .agg [.lit (.bool f.prot), .lit (.bool f.num), .lit (.int .i64 f.disp), .lit (.bool f.mod)]:=fun _=>rfl
  simp only[hfa] at hof hyk
  simp+contextual [pl106t,hρy,hρb]
  repeat' (with_reducible apply And.intro)
  all_goals
   refine callK.of hat ?_
   rintro v σ' ⟨rfl,rfl⟩
   simp[hρy]
   repeat' (with_reducible apply And.intro)
  all_goals
  all_goals
   refine callK.of (hof _) ?_
   rintro v σ' ⟨rfl,rfl⟩
   simp[hρy]
  all_goals
   refine yieldK.of (by simp) hyk hB.sub ?_
   intro b3 τ' E' hR hap
   cases b3
   ·simp
    exact ⟨_,Store.sub_refl _,τ',by simpa using hR,Store.sub_over _ _ _⟩
   ·simp
    obtain ⟨ρ',h1,h2⟩:=hB.next (Store.sub_refl _) hap
    exact ⟨ρ',h1,τ',by simpa using hR,h2⟩
 ·rintro ρ E2 σ2 hs2 ⟨τ1,hI,hB⟩
  simp
  exact ⟨⟨_,AV.le_refl _⟩,_,Store.sub_refl _,τ1,Store.sub_trans hB.sub hs2, .inl hI⟩
 ·rintro c ρ E2 σ2 hs2 ⟨rfl,τ1,hJ,hsub⟩
  simp
  exact ⟨⟨_,AV.le_refl _⟩,_,Store.sub_refl _,τ1,Store.sub_trans hsub hs2, .inr hJ⟩
def NeedPF (b c q p:Nat) (S:Nat→Sp) (a:Nat) (k:Nat) (τ:Store):Prop:=τ b=some [ptrA q]∧τ c=some [.lit (.int .i64 a)]∧Prg τ q p (S k)
theorem needPF_mono {b c q p a:Nat} {S:Nat→Sp} {k:Nat} {τ τ':Store} (h:NeedPF b c q p S a k τ) (hs:Store.sub τ τ'):NeedPF b c q p S a k τ':=
 ⟨sub_at h.1 hs,sub_at h.2.1 hs,prg_mono h.2.2 hs⟩
theorem places_iterF (b c q p:Nat) (S:Nat→Sp) (hF:Fam S) (a:Nat) (ha:a<(S 0).n) (hat:attrAt (S 0).cells a=true) (σ:Store):IterG Tryz.prog 104 [ptrA b,ptrA c] σ (Sp.len (S 0).cells a) (NeedPF b c q p S a) fun k _=>[.lit (.int .i64 ((a+k+1) % (S 0).n:Nat))]:=by
 refine ⟨fun k τ τ' h hs=>⟨needPF_mono h hs,rfl⟩,fun X l I J hneed hy τ E h0 hs=> ?_⟩
 have hN0:=hneed 0 τ E (Nat.zero_le _) h0
 obtain ⟨hb,hc,hP⟩:=needPF_mono hN0 hs
 have hg:=hF.good 0
 have hln:=hg.len
 have hn:=(S 0).n_le
 have hnp:=(S 0).n_pos
 have tn:∀o:Nat,σ o=none→τ o=none:=fun o ho=>by
  rcases hs o with h|h
  ·exact h
  ·rw[h,ho]
 have hsz:=size_calls hP
 have hw1:=swrap_calls (S 0) (a:Int)
 rw[wrap_of_lt ha] at hw1
 have hca:((S 0).at (a:Int)).attr=true:=by rw[at_of hg ha];exact hat
 have hat1:=fun τ (hτ:Prg τ q p (S 0))=>at_calls hτ (a:Int)
 simp only[cellA_eq,hca] at hat1
 have hw2:=swrap_calls (S 0) ((a:Int)+1)
 have e2:wrap (S 0).n ((a:Int)+1)=(a+0+1) % (S 0).n:=by
  rw[show ((a:Int)+1)=((a+1:Nat):Int) by omega,wrap_mod hnp]
 rw[e2] at hw2
 have hi1:IntKind.i64.wrap ((a:Int)+1)=(a:Int)+1:=wrap_i64 (by omega) (by omega)
 refine ACallsY.of_awp follows (st:=st104) (plans:=pl104) (n:=33) Tryz.func104 rfl (by kernel_rfl) (by kernel_rfl) (by kernel_rfl) ?_
 simp[hb]
 refine callK.of hsz ?_
 rintro v σ' ⟨rfl,rfl⟩
 simp
 intro z hz
 have hcz:¬c=z:=by rintro rfl;rw[hc] at hz;cases hz
 have hbz:¬b=z:=by rintro rfl;rw[hb] at hz;cases hz
 simp[hc,hcz]
 refine callK.of (hw1 _) ?_
 rintro v σ' ⟨rfl,rfl⟩
 have hqc:¬q=c:=by
  rintro rfl;have:=hP.obj;rw[hc] at this;simp[spO] at this
 have hpc:¬p=c:=by
  rintro rfl
  have h1:=hP.row;rw[hc] at h1
  have h2:=congrArg (fun o=>(o.getD []).length) h1
  simp only[Option.getD_some,cellsO_length,List.length_cons,List.length_nil] at h2;omega
 obtain ⟨m1,m2,m3,m4⟩:=hP.fresh hz
 have hbc:¬b=c:=by
  rintro rfl;rw[hb] at hc;simp at hc
 simp[hc,hcz,hb,hbz,hbc]
 refine callK.of (hat1 _ ((hP.new hz _).upd ⟨hqc,hpc⟩ _)) ?_
 rintro v σ' ⟨rfl,rfl⟩
 simp[Ne.symm hcz,hi1]
 refine callK.of (hw2 _) ?_
 rintro v σ' ⟨rfl,rfl⟩
 simp
 have hlen:=Sp.len_lt (l:=(S 0).cells) (a:=a) (by omega)
 refine codeYK.loop follows (st:=st104) (plans:=pl104) (S:=Nat×Store) (fun x=>x.1≤Sp.len (S 0).cells a∧x.2 z=none)
  (fun x=>[(0, .func (.yield l) [] []),(1,ptrA b),(2,ptrA c),(4,ptrA z),(5, .lit (.int .i64 ((a+x.1+1) % (S 0).n:Nat)))]) (fun x=>x.2.upd z [.lit (.int .i64 (S 0).rows), .lit (.int .i64 (S 0).cols)]) (fun x E=>I x.1 x.2 E) (fun x=>Sp.len (S 0).cells a-x.1) (0,τ) (by kernel_rfl) ⟨Nat.zero_le _,tn _ hz⟩ (by simp) ?_ h0 ?_
 ·refine Store.sub2 (fun o=> ?_) (fun i=>by simpa using hs (mkey i))
  dsimp only
  simp only[supd_apply]
  by_cases h1:o=z
  ·subst h1;right;simp[Ne.symm hcz]
  ·by_cases h2:o=c
   ·subst h2
    rcases hs o with h|h
    ·left;simp[h1,h]
    ·right;simp[h1,h,hc]
   ·simp only[if_neg h1,if_neg h2];exact hs o
 rintro ⟨k,τ1⟩ E1 ⟨hk,hz1⟩ hI
 dsimp only at hk hz1 hI⊢
 have hNk:=hneed k τ1 E1 hk hI
 have hsub:Store.sub τ1 (τ1.upd z [.lit (.int .i64 (S 0).rows), .lit (.int .i64 (S 0).cols)]):=Store.sub_upd hz1 (Store.sub_refl _)
 have hPk:=prg_mono hNk.2.2 hsub
 have hbk:=sub_at hNk.1 hsub
 have hml:(a+k+1) % (S 0).n<(S 0).n:=Nat.mod_lt _ hnp
 have hatk:=at_calls hPk (((a+k+1) % (S 0).n:Nat):Int)
 have hae:((S k).at (((a+k+1) % (S 0).n:Nat):Int)).attr=attrAt (S 0).cells ((a+k+1) % (S 0).n):=by rw[attrAt_at (by rw[hF.n k];exact hml),hF.attr]
 by_cases hlt:k<Sp.len (S 0).cells a
 ·have hfree:=Sp.len_free (l:=(S 0).cells) (a:=a) (j:=k+1) (by omega) (by omega)
  rw[show a+(k+1)=a+k+1 by omega,hln] at hfree
  have hcf:((S k).at (((a+k+1) % (S 0).n:Nat):Int)).attr=false:=by rw[hae];exact hfree
  have hyk:=hy k hlt τ1 E1 hI
  have hwk:=swrap_calls (S 0) ((((a+k+1) % (S 0).n:Nat):Int)+1)
  have e3:wrap (S 0).n ((((a+k+1) % (S 0).n:Nat):Int)+1)=(a+(k+1)+1) % (S 0).n:=by
   rw[show ((((a+k+1) % (S 0).n:Nat):Int)+1)=(((a+k+1) % (S 0).n+1:Nat):Int) by omega,wrap_mod hnp,Nat.mod_add_mod,show a+(k+1)+1=a+k+1+1 by omega]
  rw[e3] at hwk
  have hik:IntKind.i64.wrap ((((a+k+1) % (S 0).n:Nat):Int)+1)=(((a+k+1) % (S 0).n:Nat):Int)+1:=wrap_i64 (by omega) (by omega)
  generalize (a+k+1) % (S 0).n=m at*
  simp only[cellA_eq,hcf] at hatk
  have hbk':τ1 b=some [ptrA q]:=hNk.1
  simp[hbk',hbz]
  refine callK.of hatk ?_
  rintro v σ' ⟨rfl,rfl⟩
  simp
  refine yieldK.of (args':=[.lit (.int .i64 (m:Nat))]) (by simp) hyk hsub ?_
  intro b3 τ' E' hR hap
  have hz2:τ' z=none:=hap z hz1 (by simp)
  have hov:Store.over τ' τ1 (τ1.upd z [.lit (.int .i64 (S 0).rows), .lit (.int .i64 (S 0).cols)]) z=some [.lit (.int .i64 (S 0).rows), .lit (.int .i64 (S 0).cols)]:=by
   rw[Store.over_apart hap hz1 (by simp)];simp
  cases b3
  ·simp
   exact ⟨⟨_,AV.le_refl _⟩,_,Store.sub_refl _,τ',Store.sub_over _ _ _, .inr (by simpa using hR)⟩
  ·simp[hov,hik]
   refine callK.of (hwk _) ?_
   rintro v σ' ⟨rfl,rfl⟩
   simp
   refine ⟨k+1,τ',⟨by omega,hz2⟩,by omega,AV.le_refl _,Store.sub2 (fun o=> ?_) (fun i=>by simpa using Store.sub_over _ _ _ (mkey i)),by simpa using hR⟩
   by_cases h1:o=z
   ·subst h1;right;rw[hov];simp
   ·simp only[supd_apply,if_neg h1];exact Store.sub_over _ _ _ o
 ·obtain rfl:k=Sp.len (S 0).cells a:=by omega
  have hstop:=Sp.len_stop hat (by omega)
  rw[hln] at hstop
  have hcf:((S (Sp.len (S 0).cells a)).at (((a+Sp.len (S 0).cells a+1) % (S 0).n:Nat):Int)).attr=true:=by rw[hae];exact hstop
  generalize (a+Sp.len (S 0).cells a+1) % (S 0).n=m at*
  simp only[cellA_eq,hcf] at hatk
  have hbk':τ1 b=some [ptrA q]:=hNk.1
  simp[hbk',hbz]
  refine callK.of hatk ?_
  rintro v σ' ⟨rfl,rfl⟩
  simp
  exact ⟨⟨_,AV.le_refl _⟩,_,Store.sub_refl _,τ1,hsub, .inl hI⟩
end Go.Proofs.YtjnopnpkfhopbaaGreatDoor
