/-
 A piece is done: all kinds.
-/
import Derived.Test.YtjnopnpkfhopbaaGreatDoorPart18
set_option linter.unusedSimpArgs false
set_option linter.unusedVariables false
set_option maxRecDepth 8000
set_option maxHeartbeats 8000000
namespace Go.Proofs.YtjnopnpkfhopbaaGreatDoor
open Go Go.AL Go.Sp
def putsP (p:Pen) (l:List UInt8):Pen:=l.foldl (fun p c=>p.put c false) p
theorem putsP_take (p:Pen) (l:List UInt8) (i:Nat) (h:i<l.length):putsP p (l.take (i+1))=(putsP p (l.take i)).put l[i] false:=by
 unfold putsP;rw[List.take_succ_eq_append_getElem h,List.foldl_append];rfl
theorem PenOk.puts {s:Sp} {p:Pen} (h:PenOk s p) (l:List UInt8):PenOk s (putsP p l):=foldl_inv (P:=PenOk s) _ (fun _ _ hb=>hb.put _ _) _ _ h
theorem Pn.ok {σ:Store} {z q r:Nat} {p:Pen} (h:Pn σ z q r p) (hl:p.n<p.s.n):PenOk p.s p:=⟨SameN.refl h.scr.good,hl⟩
theorem opC_eq (o:Op):opC o=[.lit (.int .i64 o.kind), .lit (.int .i64 o.addr),byteA o.code, .lit (.bool o.graph),byteA o.fa, .list false 2 (pairsA o.pairs), .list false 1 (bytesA o.text)]:=rfl
theorem byteA_zero:byteA 0= .lit (.int .u8 0):=rfl
set_option maxRecDepth 8000
set_option maxHeartbeats 1000000
theorem do_8 (p:Pen) (o:Op) (hk:o.kind=8):p.do o=(p.put o.code true,0):=by unfold Pen.do;simp[hk]
theorem do_0 (p:Pen) (o:Op) (hk:o.kind=0):p.do o=(putsP p o.text,0):=by unfold Pen.do putsP;simp[hk]
theorem do_17 (p:Pen) (o:Op) (hk:o.kind=17):p.do o=p.to o.addr:=by unfold Pen.do;simp[hk]
theorem do_18 (p:Pen) (o:Op) (hk:o.kind=18∨o.kind=60):p.do o=p.span o:=by unfold Pen.do;rcases hk with hk|hk<;>simp[hk]
theorem do_29 (p:Pen) (o:Op) (hk:o.kind=29):p.do o=p.attribute {attr:=true,fa:=o.fa} []:=by unfold Pen.do;simp[hk]
theorem do_41 (p:Pen) (o:Op) (hk:o.kind=41):p.do o=p.attribute {attr:=true} o.pairs:=by unfold Pen.do;simp[hk]
theorem do_44 (p:Pen) (o:Op) (hk:o.kind=44):p.do o=if (p.s.at p.n).attr=true then p.attribute (p.s.at p.n) o.pairs else (p,10):=by unfold Pen.do;simp[hk]
theorem do_40 (p:Pen) (o:Op) (hk:o.kind=40):p.do o=if appE p.look o.pairs=0 then ({p with look:=appC p.look o.pairs},0) else (p,10):=by
 unfold Pen.do appE appC;simp only[hk];cases appliedS p.look o.pairs<;>simp
theorem do_19 (p:Pen) (o:Op) (hk:o.kind=19):p.do o=({p with s:=p.s.place p.n},0):=by unfold Pen.do;simp[hk]
theorem do_5 (p:Pen) (o:Op) (hk:o.kind=5):p.do o=(p.tab,0):=by unfold Pen.do;simp[hk]
theorem pdo_8 {σ:Store} {z q r:Nat} {p:Pen} (h:Pn σ z q r p) (hl:p.n<p.s.n) (o:Op) (hk:o.kind=8):ACalls Tryz.prog 101 [ptrA z,opA o] σ fun v σ'=>v= .lit (.int .i64 ((p.do o).2:Nat))∧σ'=pn σ z q r (p.do o).1:=by
 have hnl:=p.s.n_le
 have hp:=h.pen
 have hzb:=h.ne
 have hpu:=fun τ (hτ:Pn τ z q r p)=>pput2_calls hτ (by omega) o.code true
 rw[do_8 p o hk]
 rw[show opA o= .agg (opC o) from rfl,opC_eq,hk]
 refine aw st101 pl101 110 Tryz.func101 rfl ?_
 simp+contextual
 intro b hb
 have hb0:=h.fresh hb
 generalize hX:[AV.lit (.int .i64 8),AV.lit (.int .i64 o.addr),byteA o.code,AV.lit (.bool o.graph),byteA o.fa,AV.list false 2 (pairsA o.pairs),AV.list false 1 (bytesA o.text)]=X at*
 have hT:=h.new hb X
 have hfin:∀p',Store.sub (pn σ z q r p') (pn (σ.upd b X) z q r p'):=fun p'=>pn_sub (Store.sub_upd hb (Store.sub_refl _)) _ _ _ _
 have hbX:(σ.upd b X) b=some X:=by simp
 have hX5:X[5]?=some (.list false 2 (pairsA o.pairs)):=by rw[←hX];rfl
 rw[←hX] at hbX
 refine callK.of (hpu _ hT) ?_
 rintro v σ2 ⟨rfl,rfl⟩
 simp
 exact hfin _
theorem pdo_17 {σ:Store} {z q r:Nat} {p:Pen} (h:Pn σ z q r p) (_hl:p.n<p.s.n) (o:Op) (hk:o.kind=17) (ha:0≤o.addr):ACalls Tryz.prog 101 [ptrA z,opA o] σ fun v σ'=>v= .lit (.int .i64 ((p.do o).2:Nat))∧σ'=pn σ z q r (p.do o).1:=by
 have hnl:=p.s.n_le
 have hp:=h.pen
 have hzb:=h.ne
 have hto:=fun τ (hτ:Pn τ z q r p)=>to_calls hτ o.addr ha
 rw[do_17 p o hk]
 rw[show opA o= .agg (opC o) from rfl,opC_eq,hk]
 refine aw st101 pl101 110 Tryz.func101 rfl ?_
 simp+contextual
 intro b hb
 have hb0:=h.fresh hb
 generalize hX:[AV.lit (.int .i64 17),AV.lit (.int .i64 o.addr),byteA o.code,AV.lit (.bool o.graph),byteA o.fa,AV.list false 2 (pairsA o.pairs),AV.list false 1 (bytesA o.text)]=X at*
 have hT:=h.new hb X
 have hfin:∀p',Store.sub (pn σ z q r p') (pn (σ.upd b X) z q r p'):=fun p'=>pn_sub (Store.sub_upd hb (Store.sub_refl _)) _ _ _ _
 have hbX:(σ.upd b X) b=some X:=by simp
 have hX5:X[5]?=some (.list false 2 (pairsA o.pairs)):=by rw[←hX];rfl
 rw[←hX] at hbX
 refine callK.of (hto _ hT) ?_
 rintro v σ2 ⟨rfl,rfl⟩
 simp
 exact hfin _
theorem pdo_18 {σ:Store} {z q r:Nat} {p:Pen} (h:Pn σ z q r p) (hl:p.n<p.s.n) (o:Op) (hk:o.kind=18) (ha:0≤o.addr):ACalls Tryz.prog 101 [ptrA z,opA o] σ fun v σ'=>v= .lit (.int .i64 ((p.do o).2:Nat))∧σ'=pn σ z q r (p.do o).1:=by
 have hnl:=p.s.n_le
 have hp:=h.pen
 have hzb:=h.ne
 have hsp:=fun τ (hτ:Pn τ z q r p)=>pspan_calls hτ hl o ha
 rw[show opA o= .agg (opC o) from rfl,opC_eq,hk] at hsp
 rw[do_18 p o (by omega)]
 rw[show opA o= .agg (opC o) from rfl,opC_eq,hk]
 refine aw st101 pl101 110 Tryz.func101 rfl ?_
 simp+contextual
 intro b hb
 have hb0:=h.fresh hb
 generalize hX:[AV.lit (.int .i64 18),AV.lit (.int .i64 o.addr),byteA o.code,AV.lit (.bool o.graph),byteA o.fa,AV.list false 2 (pairsA o.pairs),AV.list false 1 (bytesA o.text)]=X at*
 have hT:=h.new hb X
 have hfin:∀p',Store.sub (pn σ z q r p') (pn (σ.upd b X) z q r p'):=fun p'=>pn_sub (Store.sub_upd hb (Store.sub_refl _)) _ _ _ _
 have hbX:(σ.upd b X) b=some X:=by simp
 have hX5:X[5]?=some (.list false 2 (pairsA o.pairs)):=by rw[←hX];rfl
 rw[←hX] at hbX
 refine callK.of (hsp _ hT) ?_
 rintro v σ2 ⟨rfl,rfl⟩
 simp
 exact hfin _
theorem pdo_60 {σ:Store} {z q r:Nat} {p:Pen} (h:Pn σ z q r p) (hl:p.n<p.s.n) (o:Op) (hk:o.kind=60) (ha:0≤o.addr):ACalls Tryz.prog 101 [ptrA z,opA o] σ fun v σ'=>v= .lit (.int .i64 ((p.do o).2:Nat))∧σ'=pn σ z q r (p.do o).1:=by
 have hnl:=p.s.n_le
 have hp:=h.pen
 have hzb:=h.ne
 have hsp:=fun τ (hτ:Pn τ z q r p)=>pspan_calls hτ hl o ha
 rw[show opA o= .agg (opC o) from rfl,opC_eq,hk] at hsp
 rw[do_18 p o (by omega)]
 rw[show opA o= .agg (opC o) from rfl,opC_eq,hk]
 refine aw st101 pl101 110 Tryz.func101 rfl ?_
 simp+contextual
 intro b hb
 have hb0:=h.fresh hb
 generalize hX:[AV.lit (.int .i64 60),AV.lit (.int .i64 o.addr),byteA o.code,AV.lit (.bool o.graph),byteA o.fa,AV.list false 2 (pairsA o.pairs),AV.list false 1 (bytesA o.text)]=X at*
 have hT:=h.new hb X
 have hfin:∀p',Store.sub (pn σ z q r p') (pn (σ.upd b X) z q r p'):=fun p'=>pn_sub (Store.sub_upd hb (Store.sub_refl _)) _ _ _ _
 have hbX:(σ.upd b X) b=some X:=by simp
 have hX5:X[5]?=some (.list false 2 (pairsA o.pairs)):=by rw[←hX];rfl
 rw[←hX] at hbX
 refine callK.of (hsp _ hT) ?_
 rintro v σ2 ⟨rfl,rfl⟩
 simp
 exact hfin _
theorem pdo_29 {σ:Store} {z q r:Nat} {p:Pen} (h:Pn σ z q r p) (hl:p.n<p.s.n) (o:Op) (hk:o.kind=29):ACalls Tryz.prog 101 [ptrA z,opA o] σ fun v σ'=>v= .lit (.int .i64 ((p.do o).2:Nat))∧σ'=pn σ z q r (p.do o).1:=by
 have hnl:=p.s.n_le
 have hp:=h.pen
 have hzb:=h.ne
 have hat:=fun τ (hτ:Pn τ z q r p)=>attribute_calls hτ (by omega) false {attr:=true,fa:=o.fa} [] (by simp)
 rw[do_29 p o hk]
 rw[show opA o= .agg (opC o) from rfl,opC_eq,hk]
 refine aw st101 pl101 110 Tryz.func101 rfl ?_
 simp+contextual
 intro b hb
 have hb0:=h.fresh hb
 generalize hX:[AV.lit (.int .i64 29),AV.lit (.int .i64 o.addr),byteA o.code,AV.lit (.bool o.graph),byteA o.fa,AV.list false 2 (pairsA o.pairs),AV.list false 1 (bytesA o.text)]=X at*
 have hT:=h.new hb X
 have hfin:∀p',Store.sub (pn σ z q r p') (pn (σ.upd b X) z q r p'):=fun p'=>pn_sub (Store.sub_upd hb (Store.sub_refl _)) _ _ _ _
 have hbX:(σ.upd b X) b=some X:=by simp
 have hX5:X[5]?=some (.list false 2 (pairsA o.pairs)):=by rw[←hX];rfl
 rw[←hX] at hbX
 refine callK.le (args':=[ptrA z,cellA {attr:=true,fa:=o.fa}, .list false 2 (pairsA [])]) ⟨AV.le_refl _,AV.le_refl _,AV.le_list _ _ _,trivial⟩ (hat _ hT) ?_
 rintro v σ2 ⟨rfl,rfl⟩
 simp
 exact hfin _
theorem pdo_41 {σ:Store} {z q r:Nat} {p:Pen} (h:Pn σ z q r p) (hl:p.n<p.s.n) (o:Op) (hk:o.kind=41) (hps:o.pairs.length≤1000000000):ACalls Tryz.prog 101 [ptrA z,opA o] σ fun v σ'=>v= .lit (.int .i64 ((p.do o).2:Nat))∧σ'=pn σ z q r (p.do o).1:=by
 have hnl:=p.s.n_le
 have hp:=h.pen
 have hzb:=h.ne
 have hat:=fun τ (hτ:Pn τ z q r p)=>attribute_calls hτ (by omega) false {attr:=true} o.pairs hps
 rw[do_41 p o hk]
 rw[show opA o= .agg (opC o) from rfl,opC_eq,hk]
 refine aw st101 pl101 110 Tryz.func101 rfl ?_
 simp+contextual
 intro b hb
 have hb0:=h.fresh hb
 generalize hX:[AV.lit (.int .i64 41),AV.lit (.int .i64 o.addr),byteA o.code,AV.lit (.bool o.graph),byteA o.fa,AV.list false 2 (pairsA o.pairs),AV.list false 1 (bytesA o.text)]=X at*
 have hT:=h.new hb X
 have hfin:∀p',Store.sub (pn σ z q r p') (pn (σ.upd b X) z q r p'):=fun p'=>pn_sub (Store.sub_upd hb (Store.sub_refl _)) _ _ _ _
 have hbX:(σ.upd b X) b=some X:=by simp
 have hX5:X[5]?=some (.list false 2 (pairsA o.pairs)):=by rw[←hX];rfl
 rw[←hX] at hbX
 refine callK.le (args':=[ptrA z,cellA {attr:=true}, .list false 2 (pairsA o.pairs)]) ⟨AV.le_refl _,AV.le_refl _,AV.le_refl _,trivial⟩ (hat _ hT) ?_
 rintro v σ2 ⟨rfl,rfl⟩
 simp
 exact hfin _
theorem pdo_5 {σ:Store} {z q r:Nat} {p:Pen} (h:Pn σ z q r p) (hl:p.n<p.s.n) (o:Op) (hk:o.kind=5):ACalls Tryz.prog 101 [ptrA z,opA o] σ fun v σ'=>v= .lit (.int .i64 ((p.do o).2:Nat))∧σ'=pn σ z q r (p.do o).1:=by
 have hnl:=p.s.n_le
 have hp:=h.pen
 have hzb:=h.ne
 have hta:=fun τ (hτ:Pn τ z q r p)=>tab_calls hτ hl
 rw[do_5 p o hk]
 rw[show opA o= .agg (opC o) from rfl,opC_eq,hk]
 refine aw st101 pl101 110 Tryz.func101 rfl ?_
 simp+contextual
 intro b hb
 have hb0:=h.fresh hb
 generalize hX:[AV.lit (.int .i64 5),AV.lit (.int .i64 o.addr),byteA o.code,AV.lit (.bool o.graph),byteA o.fa,AV.list false 2 (pairsA o.pairs),AV.list false 1 (bytesA o.text)]=X at*
 have hT:=h.new hb X
 have hfin:∀p',Store.sub (pn σ z q r p') (pn (σ.upd b X) z q r p'):=fun p'=>pn_sub (Store.sub_upd hb (Store.sub_refl _)) _ _ _ _
 have hbX:(σ.upd b X) b=some X:=by simp
 have hX5:X[5]?=some (.list false 2 (pairsA o.pairs)):=by rw[←hX];rfl
 rw[←hX] at hbX
 refine callK.of (hta _ hT) ?_
 rintro v σ2 ⟨rfl,rfl⟩
 simp
 exact hfin _
theorem pdo_19 {σ:Store} {z q r:Nat} {p:Pen} (h:Pn σ z q r p) (_hl:p.n<p.s.n) (o:Op) (hk:o.kind=19):ACalls Tryz.prog 101 [ptrA z,opA o] σ fun v σ'=>v= .lit (.int .i64 ((p.do o).2:Nat))∧σ'=pn σ z q r (p.do o).1:=by
 have hnl:=p.s.n_le
 have hp:=h.pen
 have hzb:=h.ne
 have hpl:=fun τ (hτ:Prg τ q r p.s)=>place_calls hτ (p.n:Int)
 rw[do_19 p o hk]
 rw[show opA o= .agg (opC o) from rfl,opC_eq,hk]
 unfold penO at hp
 refine aw st101 pl101 110 Tryz.func101 rfl ?_
 simp+contextual [hp,hzb]
 intro b hb
 have hb0:=h.fresh hb
 generalize hX:[AV.lit (.int .i64 19),AV.lit (.int .i64 o.addr),byteA o.code,AV.lit (.bool o.graph),byteA o.fa,AV.list false 2 (pairsA o.pairs),AV.list false 1 (bytesA o.text)]=X at*
 have hT:=h.new hb X
 have hfin:∀p',Store.sub (pn σ z q r p') (pn (σ.upd b X) z q r p'):=fun p'=>pn_sub (Store.sub_upd hb (Store.sub_refl _)) _ _ _ _
 have hbX:(σ.upd b X) b=some X:=by simp
 have hX5:X[5]?=some (.list false 2 (pairsA o.pairs)):=by rw[←hX];rfl
 rw[←hX] at hbX
 refine callK.of (hpl _ hT.scr) ?_
 rintro v σ2 ⟨rfl,rfl⟩
 simp
 rw[pn_scr hT]
 exact hfin _
theorem pdo_0 {σ:Store} {z q r:Nat} {p:Pen} (h:Pn σ z q r p) (hl:p.n<p.s.n) (o:Op) (hk:o.kind=0) (htx:o.text.length≤1000000000):ACalls Tryz.prog 101 [ptrA z,opA o] σ fun v σ'=>v= .lit (.int .i64 ((p.do o).2:Nat))∧σ'=pn σ z q r (p.do o).1:=by
 have hnl:=p.s.n_le
 have hp:=h.pen
 have hzb:=h.ne
 rw[do_0 p o hk]
 rw[show opA o= .agg (opC o) from rfl,opC_eq,hk]
 refine aw st101 pl101 110 Tryz.func101 rfl ?_
 simp+contextual
 intro b hb
 have hb0:=h.fresh hb
 generalize hX:[AV.lit (.int .i64 0),AV.lit (.int .i64 o.addr),byteA o.code,AV.lit (.bool o.graph),byteA o.fa,AV.list false 2 (pairsA o.pairs),AV.list false 1 (bytesA o.text)]=X at*
 have hT:=h.new hb X
 have hfin:∀p',Store.sub (pn σ z q r p') (pn (σ.upd b X) z q r p'):=fun p'=>pn_sub (Store.sub_upd hb (Store.sub_refl _)) _ _ _ _
 have hbX:(σ.upd b X) b=some X:=by simp
 have hX5:X[5]?=some (.list false 2 (pairsA o.pairs)):=by rw[←hX];rfl
 rw[←hX] at hbX
 refine codeK.loop follows (st:=st101) (plans:=pl101) (X:=Nat) (fun i=>i≤o.text.length)
  (fun i=>[(0,ptrA z),(15, .list false 1 (bytesA o.text)),(16, .lit (.int .i64 o.text.length)),(17, .lit (.int .i64 i))]) (fun i=>pn (σ.upd b X) z q r (putsP p (o.text.take i))) (fun i=>o.text.length-i) 0 (by kernel_rfl) (by simp) (by simp) (by
   have hz0:putsP p (o.text.take 0)=p:=rfl
   rw[hz0,hT.self];exact Store.sub_refl _) fun i hi=> ?_
 have hok:=(h.ok hl).puts (o.text.take i)
 have hPi:Pn (pn (σ.upd b X) z q r (putsP p (o.text.take i))) z q r (putsP p (o.text.take i)):=hT.to _ hok.same.1
 by_cases hlt:i<o.text.length
 ·have hw:IntKind.i64.wrap ((i:Int)+1)=((i+1:Nat):Int):=wrap_i64 (by omega) (by omega)
  have hg:=bytesA_at o.text i hlt
  have hnx:=putsP_take p o.text i hlt
  generalize o.text[i]=c at*
  have hpu:=pput2_calls hPi (by have:=hok.lt;omega) c false
  rw[pn_pn _ _ h.scr.ne h.zq h.zr,←hnx] at hpu
  simp[hlt,hg]
  refine callK.of hpu ?_
  rintro v σ2 ⟨rfl,rfl⟩
  simp
  exact ⟨i+1,by omega,by omega,by rw[hw];exact AV.le_refl _,Store.sub_refl _⟩
 ·obtain rfl:i=o.text.length:=by omega
  rw[List.take_length]
  simp
  exact hfin _
theorem pdo_44a {σ:Store} {z q r:Nat} {p:Pen} (h:Pn σ z q r p) (hl:p.n<p.s.n) (o:Op) (hk:o.kind=44) (hps:o.pairs.length≤1000000000) (ha:(p.s.at p.n).attr=true):ACalls Tryz.prog 101 [ptrA z,opA o] σ fun v σ'=>v= .lit (.int .i64 ((p.do o).2:Nat))∧σ'=pn σ z q r (p.do o).1:=by
 have hnl:=p.s.n_le
 have hp:=h.pen
 have hzb:=h.ne
 have hat:=fun τ (hτ:Prg τ q r p.s)=>at_calls hτ (p.n:Int)
 have hab:=fun τ (hτ:Pn τ z q r p)=>attribute_calls hτ (by omega) false (p.s.at p.n) o.pairs hps
 rw[do_44 p o hk]
 simp only[cellA_eq,ha] at hab hat
 simp only[ha,if_true]
 rw[show opA o= .agg (opC o) from rfl,opC_eq,hk]
 unfold penO at hp
 refine aw st101 pl101 110 Tryz.func101 rfl ?_
 simp+contextual [ite_free,hp,hzb]
 intro b hb
 have hb0:=h.fresh hb
 generalize hX:[AV.lit (.int .i64 44),AV.lit (.int .i64 o.addr),byteA o.code,AV.lit (.bool o.graph),byteA o.fa,AV.list false 2 (pairsA o.pairs),AV.list false 1 (bytesA o.text)]=X at*
 have hT:=h.new hb X
 have hfin:∀p',Store.sub (pn σ z q r p') (pn (σ.upd b X) z q r p'):=fun p'=>pn_sub (Store.sub_upd hb (Store.sub_refl _)) _ _ _ _
 have hbX:(σ.upd b X) b=some X:=by simp
 have hX5:X[5]?=some (.list false 2 (pairsA o.pairs)):=by rw[←hX];rfl
 rw[←hX] at hbX
 with_reducible apply And.intro
 ·refine callK.of (hat _ hT.scr) ?_
  rintro v σ2 ⟨rfl,rfl⟩
  simp
  intro b8 hb8
  simp only[ite_none] at hb8
  obtain ⟨e1,hb8⟩:=hb8
  have hb1:=h.fresh hb8
  have hT2:=fun C=>hT.new (b:=b8) (by simp[e1,hb8]) C
  have hfin2:∀C p',Store.sub (pn σ z q r p') (pn ((σ.upd b X).upd b8 C) z q r p'):=fun C p'=>pn_sub (Store.sub_upd (by simp[hb8]) (Store.sub_upd hb (Store.sub_refl _))) _ _ _ _
  have hfin3:∀C,Store.sub σ ((σ.upd b X).upd b8 C):=fun C=>Store.sub_upd (by simp[hb8]) (Store.sub_upd hb (Store.sub_refl _))
  have e2:=Ne.symm e1
  simp[hX5,e2]
  refine callK.of (hab _ (hT2 _)) ?_
  rintro v σ3 ⟨rfl,rfl⟩
  simp
  exact hfin2 _ _
 ·intro b8 e1 e0 hb8
  have hb1:=h.fresh hb8
  have hT2:=fun C=>hT.new (b:=b8) (by simp[e1,hb8]) C
  have hfin2:∀C p',Store.sub (pn σ z q r p') (pn ((σ.upd b X).upd b8 C) z q r p'):=fun C p'=>pn_sub (Store.sub_upd (by simp[hb8]) (Store.sub_upd hb (Store.sub_refl _))) _ _ _ _
  have hfin3:∀C,Store.sub σ ((σ.upd b X).upd b8 C):=fun C=>Store.sub_upd (by simp[hb8]) (Store.sub_upd hb (Store.sub_refl _))
  have e2:=Ne.symm e1
  refine callK.of (hat _ (hT2 _).scr) ?_
  rintro v σ2 ⟨rfl,rfl⟩
  simp[hX5,e2]
  refine callK.of (hab _ (hT2 _)) ?_
  rintro v σ3 ⟨rfl,rfl⟩
  simp
  exact hfin2 _ _
theorem pdo_44b {σ:Store} {z q r:Nat} {p:Pen} (h:Pn σ z q r p) (hl:p.n<p.s.n) (o:Op) (hk:o.kind=44) (hps:o.pairs.length≤1000000000) (ha:(p.s.at p.n).attr=false):ACalls Tryz.prog 101 [ptrA z,opA o] σ fun v σ'=>v= .lit (.int .i64 ((p.do o).2:Nat))∧σ'=pn σ z q r (p.do o).1:=by
 have hnl:=p.s.n_le
 have hp:=h.pen
 have hzb:=h.ne
 have hat:=fun τ (hτ:Prg τ q r p.s)=>at_calls hτ (p.n:Int)
 have hab:=fun τ (hτ:Pn τ z q r p)=>attribute_calls hτ (by omega) false (p.s.at p.n) o.pairs hps
 rw[do_44 p o hk]
 simp only[cellA_eq,ha] at hab hat
 simp only[ha,Bool.false_eq_true,if_false]
 rw[h.self]
 rw[show opA o= .agg (opC o) from rfl,opC_eq,hk]
 unfold penO at hp
 refine aw st101 pl101 110 Tryz.func101 rfl ?_
 simp+contextual [ite_free,hp,hzb]
 intro b hb
 have hb0:=h.fresh hb
 generalize hX:[AV.lit (.int .i64 44),AV.lit (.int .i64 o.addr),byteA o.code,AV.lit (.bool o.graph),byteA o.fa,AV.list false 2 (pairsA o.pairs),AV.list false 1 (bytesA o.text)]=X at*
 have hT:=h.new hb X
 have hfin:∀p',Store.sub (pn σ z q r p') (pn (σ.upd b X) z q r p'):=fun p'=>pn_sub (Store.sub_upd hb (Store.sub_refl _)) _ _ _ _
 have hbX:(σ.upd b X) b=some X:=by simp
 have hX5:X[5]?=some (.list false 2 (pairsA o.pairs)):=by rw[←hX];rfl
 rw[←hX] at hbX
 with_reducible apply And.intro
 ·refine callK.of (hat _ hT.scr) ?_
  rintro v σ2 ⟨rfl,rfl⟩
  simp
  intro b8 hb8
  simp only[ite_none] at hb8
  obtain ⟨e1,hb8⟩:=hb8
  have hb1:=h.fresh hb8
  have hT2:=fun C=>hT.new (b:=b8) (by simp[e1,hb8]) C
  have hfin2:∀C p',Store.sub (pn σ z q r p') (pn ((σ.upd b X).upd b8 C) z q r p'):=fun C p'=>pn_sub (Store.sub_upd (by simp[hb8]) (Store.sub_upd hb (Store.sub_refl _))) _ _ _ _
  have hfin3:∀C,Store.sub σ ((σ.upd b X).upd b8 C):=fun C=>Store.sub_upd (by simp[hb8]) (Store.sub_upd hb (Store.sub_refl _))
  have e2:=Ne.symm e1
  (try simp)
  exact hfin3 _
 ·intro b8 e1 e0 hb8
  have hb1:=h.fresh hb8
  have hT2:=fun C=>hT.new (b:=b8) (by simp[e1,hb8]) C
  have hfin2:∀C p',Store.sub (pn σ z q r p') (pn ((σ.upd b X).upd b8 C) z q r p'):=fun C p'=>pn_sub (Store.sub_upd (by simp[hb8]) (Store.sub_upd hb (Store.sub_refl _))) _ _ _ _
  have hfin3:∀C,Store.sub σ ((σ.upd b X).upd b8 C):=fun C=>Store.sub_upd (by simp[hb8]) (Store.sub_upd hb (Store.sub_refl _))
  have e2:=Ne.symm e1
  refine callK.of (hat _ (hT2 _).scr) ?_
  rintro v σ2 ⟨rfl,rfl⟩
  (try simp)
  exact hfin3 _
theorem pdo_44 {σ:Store} {z q r:Nat} {p:Pen} (h:Pn σ z q r p) (hl:p.n<p.s.n) (o:Op) (hk:o.kind=44) (hps:o.pairs.length≤1000000000):ACalls Tryz.prog 101 [ptrA z,opA o] σ fun v σ'=>v= .lit (.int .i64 ((p.do o).2:Nat))∧σ'=pn σ z q r (p.do o).1:=by
 cases ha:(p.s.at p.n).attr
 ·exact pdo_44b h hl o hk hps ha
 ·exact pdo_44a h hl o hk hps ha
theorem pdo_40a {σ:Store} {z q r:Nat} {p:Pen} (h:Pn σ z q r p) (_hl:p.n<p.s.n) (o:Op) (hk:o.kind=40) (hps:o.pairs.length≤1000000000) (he:appE p.look o.pairs=0):ACalls Tryz.prog 101 [ptrA z,opA o] σ fun v σ'=>v= .lit (.int .i64 ((p.do o).2:Nat))∧σ'=pn σ z q r (p.do o).1:=by
 have hnl:=p.s.n_le
 have hp:=h.pen
 have hzb:=h.ne
 have hap:=fun τ=>applied_calls false p.look o.pairs hps τ
 rw[do_40 p o hk]
 rw[he] at hap⊢
 generalize appC p.look o.pairs=d at*
 simp only[cellA_eq] at hap
 rw[if_pos rfl]
 rw[show opA o= .agg (opC o) from rfl,opC_eq,hk]
 unfold penO at hp
 refine aw st101 pl101 110 Tryz.func101 rfl ?_
 simp+contextual [ite_free,hp,hzb]
 intro b hb
 have hb0:=h.fresh hb
 generalize hX:[AV.lit (.int .i64 40),AV.lit (.int .i64 o.addr),byteA o.code,AV.lit (.bool o.graph),byteA o.fa,AV.list false 2 (pairsA o.pairs),AV.list false 1 (bytesA o.text)]=X at*
 have hT:=h.new hb X
 have hfin:∀p',Store.sub (pn σ z q r p') (pn (σ.upd b X) z q r p'):=fun p'=>pn_sub (Store.sub_upd hb (Store.sub_refl _)) _ _ _ _
 have hbX:(σ.upd b X) b=some X:=by simp
 have hX5:X[5]?=some (.list false 2 (pairsA o.pairs)):=by rw[←hX];rfl
 rw[←hX] at hbX
 with_reducible apply And.intro
 ·refine callK.of (hap _) ?_
  rintro v σ2 ⟨rfl,rfl⟩
  simp
  repeat' (with_reducible apply And.intro)
  all_goals
   intro b8 hb8
   simp only[ite_none] at hb8
   obtain ⟨e1,hb8⟩:=hb8
   have hb1:=h.fresh hb8
   have hT2:=fun C=>hT.new (b:=b8) (by simp[e1,hb8]) C
   have hfin2:∀C p',Store.sub (pn σ z q r p') (pn ((σ.upd b X).upd b8 C) z q r p'):=fun C p'=>pn_sub (Store.sub_upd (by simp[hb8]) (Store.sub_upd hb (Store.sub_refl _))) _ _ _ _
   have hfin3:∀C,Store.sub σ ((σ.upd b X).upd b8 C):=fun C=>Store.sub_upd (by simp[hb8]) (Store.sub_upd hb (Store.sub_refl _))
   have e2:=Ne.symm e1
   have hfin4:∀C,Store.sub (pn σ z q r {p with look:=d}) (((σ.upd b X).upd b8 C).upd z (penO q {p with look:=d})):=fun C=>by rw[pn_pen (hT2 C) {p with look:=d} rfl];exact hfin2 _ _
   repeat' (with_reducible apply And.intro)
  all_goals
   simp[hp,hb1,hb0]
   exact hfin4 _
 ·intro b8 e1 e0 hb8
  have hb1:=h.fresh hb8
  have hT2:=fun C=>hT.new (b:=b8) (by simp[e1,hb8]) C
  have hfin2:∀C p',Store.sub (pn σ z q r p') (pn ((σ.upd b X).upd b8 C) z q r p'):=fun C p'=>pn_sub (Store.sub_upd (by simp[hb8]) (Store.sub_upd hb (Store.sub_refl _))) _ _ _ _
  have hfin3:∀C,Store.sub σ ((σ.upd b X).upd b8 C):=fun C=>Store.sub_upd (by simp[hb8]) (Store.sub_upd hb (Store.sub_refl _))
  have e2:=Ne.symm e1
  have hfin4:∀C,Store.sub (pn σ z q r {p with look:=d}) (((σ.upd b X).upd b8 C).upd z (penO q {p with look:=d})):=fun C=>by rw[pn_pen (hT2 C) {p with look:=d} rfl];exact hfin2 _ _
  refine callK.of (hap _) ?_
  rintro v σ2 ⟨rfl,rfl⟩
  simp
  repeat' (with_reducible apply And.intro)
  all_goals
   simp[hp,hb1,hb0]
   exact hfin4 _
theorem pdo_40b {σ:Store} {z q r:Nat} {p:Pen} (h:Pn σ z q r p) (_hl:p.n<p.s.n) (o:Op) (hk:o.kind=40) (hps:o.pairs.length≤1000000000) (he:appE p.look o.pairs=10):ACalls Tryz.prog 101 [ptrA z,opA o] σ fun v σ'=>v= .lit (.int .i64 ((p.do o).2:Nat))∧σ'=pn σ z q r (p.do o).1:=by
 have hnl:=p.s.n_le
 have hp:=h.pen
 have hzb:=h.ne
 have hap:=fun τ=>applied_calls false p.look o.pairs hps τ
 rw[do_40 p o hk]
 rw[he] at hap⊢
 generalize appC p.look o.pairs=d at*
 simp only[cellA_eq] at hap
 rw[if_neg (by omega)]
 rw[h.self]
 rw[show opA o= .agg (opC o) from rfl,opC_eq,hk]
 unfold penO at hp
 refine aw st101 pl101 110 Tryz.func101 rfl ?_
 simp+contextual [ite_free,hp,hzb]
 intro b hb
 have hb0:=h.fresh hb
 generalize hX:[AV.lit (.int .i64 40),AV.lit (.int .i64 o.addr),byteA o.code,AV.lit (.bool o.graph),byteA o.fa,AV.list false 2 (pairsA o.pairs),AV.list false 1 (bytesA o.text)]=X at*
 have hT:=h.new hb X
 have hfin:∀p',Store.sub (pn σ z q r p') (pn (σ.upd b X) z q r p'):=fun p'=>pn_sub (Store.sub_upd hb (Store.sub_refl _)) _ _ _ _
 have hbX:(σ.upd b X) b=some X:=by simp
 have hX5:X[5]?=some (.list false 2 (pairsA o.pairs)):=by rw[←hX];rfl
 rw[←hX] at hbX
 with_reducible apply And.intro
 ·refine callK.of (hap _) ?_
  rintro v σ2 ⟨rfl,rfl⟩
  simp
  repeat' (with_reducible apply And.intro)
  all_goals
   intro b8 hb8
   simp only[ite_none] at hb8
   obtain ⟨e1,hb8⟩:=hb8
   have hb1:=h.fresh hb8
   have hT2:=fun C=>hT.new (b:=b8) (by simp[e1,hb8]) C
   have hfin2:∀C p',Store.sub (pn σ z q r p') (pn ((σ.upd b X).upd b8 C) z q r p'):=fun C p'=>pn_sub (Store.sub_upd (by simp[hb8]) (Store.sub_upd hb (Store.sub_refl _))) _ _ _ _
   have hfin3:∀C,Store.sub σ ((σ.upd b X).upd b8 C):=fun C=>Store.sub_upd (by simp[hb8]) (Store.sub_upd hb (Store.sub_refl _))
   have e2:=Ne.symm e1
   repeat' (with_reducible apply And.intro)
  all_goals
   (try simp)
   exact hfin3 _
 ·intro b8 e1 e0 hb8
  have hb1:=h.fresh hb8
  have hT2:=fun C=>hT.new (b:=b8) (by simp[e1,hb8]) C
  have hfin2:∀C p',Store.sub (pn σ z q r p') (pn ((σ.upd b X).upd b8 C) z q r p'):=fun C p'=>pn_sub (Store.sub_upd (by simp[hb8]) (Store.sub_upd hb (Store.sub_refl _))) _ _ _ _
  have hfin3:∀C,Store.sub σ ((σ.upd b X).upd b8 C):=fun C=>Store.sub_upd (by simp[hb8]) (Store.sub_upd hb (Store.sub_refl _))
  have e2:=Ne.symm e1
  refine callK.of (hap _) ?_
  rintro v σ2 ⟨rfl,rfl⟩
  simp
  repeat' (with_reducible apply And.intro)
  all_goals
   (try simp)
   exact hfin3 _
theorem pdo_40 {σ:Store} {z q r:Nat} {p:Pen} (h:Pn σ z q r p) (hl:p.n<p.s.n) (o:Op) (hk:o.kind=40) (hps:o.pairs.length≤1000000000):ACalls Tryz.prog 101 [ptrA z,opA o] σ fun v σ'=>v= .lit (.int .i64 ((p.do o).2:Nat))∧σ'=pn σ z q r (p.do o).1:=by
 rcases appE_01 p.look o.pairs with he|he
 ·exact pdo_40a h hl o hk hps he
 ·exact pdo_40b h hl o hk hps he
theorem pdo_calls {σ:Store} {z q r:Nat} {p:Pen} (h:Pn σ z q r p) (hl:p.n<p.s.n) (o:Op) (hk:o.kind=0∨isOrd (UInt8.ofNat o.kind)=true∧o.kind<256) (ha:0≤o.addr) (htx:o.text.length≤1000000000) (hps:o.pairs.length≤1000000000):
  ACalls Tryz.prog 101 [ptrA z,opA o] σ fun v σ'=>v= .lit (.int .i64 ((p.do o).2:Nat))∧σ'=pn σ z q r (p.do o).1:=by
 rcases hk with hk|⟨hk,hlt⟩
 ·exact pdo_0 h hl o hk htx
 ·have e:(UInt8.ofNat o.kind).toNat=o.kind:=by rw[UInt8.toNat_ofNat'];omega
  rcases isOrd_cases hk with h1|h1|h1|h1|h1|h1|h1|h1|h1|h1<;>(rw[h1] at e)
  ·exact pdo_5 h hl o e.symm
  ·exact pdo_8 h hl o e.symm
  ·exact pdo_17 h hl o e.symm ha
  ·exact pdo_18 h hl o e.symm ha
  ·exact pdo_19 h hl o e.symm
  ·exact pdo_29 h hl o e.symm
  ·exact pdo_40 h hl o e.symm hps
  ·exact pdo_41 h hl o e.symm hps
  ·exact pdo_44 h hl o e.symm hps
  ·exact pdo_60 h hl o e.symm ha
def okX (o:Op):List AV:=[opA o, .lit (.int .i64 0)]
def badX (e:Nat):List AV:=[opA {}, .lit (.int .i64 (e:Nat))]
def parX (l:List UInt8):List (List AV):=(allF l).1.map okX++(if (allF l).2=0 then [] else [badX (allF l).2])
theorem parX_nil:parX []=[]:=rfl
theorem parX_ok {c:UInt8} {tl:List UInt8} (h:(opF (c::tl)).1=0):parX (c::tl)=okX (opF (c::tl)).2.1::parX (opF (c::tl)).2.2:=by
 unfold parX;rw[allF_cons,if_pos h];rfl
theorem parX_bad {c:UInt8} {tl:List UInt8} (h:(opF (c::tl)).1≠0):parX (c::tl)=[badX (opF (c::tl)).1]:=by
 unfold parX;rw[allF_cons,if_neg h];simp[h]
theorem parse_calls2 (o:Bool) (l:List UInt8) (σ:Store):ACalls Tryz.prog 100 [.list o 1 (bytesA l)] σ fun v σ'=>∃b:Nat,σ b=none∧v= .func (.func 112) [] [ptrA b]∧σ'=σ.upd b [.list o 1 (bytesA l)]:=by
 refine aw st100 pl100 4 Tryz.func100 rfl ?_
 simp
 exact fun b hb=>⟨_,AV.le_refl _,_,Store.sub_refl _,b,hb,rfl,rfl⟩
theorem over_at {τ τ' cur ρ:Store} {y:Nat} {X:List AV} (h1:τ y=none) (h2:τ' y=none) (h:cur y=some X):Store.sub (τ'.upd y X) (Store.over τ' τ cur):=by
 refine Store.sub2 (fun o=> ?_) (fun i=>by simpa using Store.sub_over τ' τ cur (mkey i))
 by_cases ho:o=y
 ·subst ho;right;simp[Store.over,h1,h2,h]
 ·simp only[supd_apply,if_neg ho];exact Store.sub_over τ' τ cur o
theorem parse_iter (b:Nat) (o:Bool) (l:List UInt8) (hl:l.length≤1000000000) (σ:Store) (hb:σ b=some [.list o 1 (bytesA l)]):Iter Tryz.prog 112 [ptrA b] σ (parX l):=by
 intro X lp I J hy τ E h0 hs
 refine ACallsY.of_awp follows (st:=st112) (plans:=pl112) (n:=32) Tryz.func112 rfl (by kernel_rfl) (by kernel_rfl) (by kernel_rfl) ?_
 simp[hb]
 intro y hyn
 have tn:∀o:Nat,σ o=none→τ o=none:=fun o ho=>by
  rcases hs o with h|h
  ·exact h
  ·rw[h,ho]
 refine codeYK.loop follows (st:=st112) (plans:=pl112) (S:=(Nat×List UInt8×Bool)×Store) (fun x=>x.1.1≤(parX l).length∧x.1.2.1.length≤1000000000∧x.2 y=none∧(parX l).drop x.1.1=parX x.1.2.1)
  (fun x=>[(0, .func (.yield lp) [] []),(3,ptrA y)]) (fun x=>x.2.upd y (scA x.1.2.2 x.1.2.1 0)) (fun x E=>I x.1.1 x.2 E) (fun x=>x.1.2.1.length) ((0,l,false),τ) (by kernel_rfl) ⟨by simp,hl,tn _ hyn,rfl⟩ (by simp) ?_ h0 ?_
 ·refine Store.sub2 (fun o=> ?_) (fun i=>by simpa using hs (mkey i))
  by_cases ho:o=y
  ·subst ho;right;simp[scA]
  ·simp only[supd_apply,if_neg ho];exact hs o
 rintro ⟨⟨k,l',ow⟩,τ1⟩ E1 ⟨hk,hll,hy1,hdrop⟩ hI
 dsimp only at hk hll hy1 hdrop hI⊢
 rcases l' with _|⟨c,tl⟩
 ·have hke:k=(parX l).length:=by
   rw[parX_nil] at hdrop
   have:=congrArg List.length hdrop
   simp at this;omega
  subst hke
  have hs0:scA ow [] 0=[.list ow 1 [], .lit (.int .i64 0)]:=rfl
  rw[hs0]
  simp
  exact ⟨⟨_,AV.le_refl _⟩,_,Store.sub_refl _,τ1,Store.sub_upd hy1 (Store.sub_refl _), .inl hI⟩
 ·have hop:=fun τ hτ=>op_calls y ow (c::tl) τ hτ (by omega) (by simp)
  have hsc:∀ow l e,scA ow l e=[.list ow 1 (bytesA l), .lit (.int .i64 e)]:=fun _ _ _=>rfl
  have hpos:0<(c::tl).length:=by simp
  have hbl:(bytesA (c::tl)).length=(c::tl).length:=by simp
  generalize hL:c::tl=L at*
  rw[hsc]
  simp[hpos]
  refine callK.of (hop _ (by simp[hsc])) ?_
  rintro v σ2 ⟨op,o',l2,e,rfl,rfl,hst⟩
  have hfn:=hst.fn
  have hlen:=hst.len
  have hp:parX L=if e=0 then okX op::parX l2 else [badX e]:=by
   have e1:(opF L).1=e:=by rw[hfn]
   have e2:(opF L).2.1=op:=by rw[hfn]
   have e3:(opF L).2.2=l2:=by rw[hfn]
   subst hL
   split
   ·rename_i h0;rw[parX_ok (by omega),e2,e3]
   ·rename_i h0;rw[parX_bad (by omega),e1]
  rw[hp] at hdrop
  have hlt:k<(parX l).length:=by
   have:=congrArg List.length hdrop
   rw[List.length_drop] at this
   split at this<;>simp at this<;>omega
  have hyk:=hy k hlt τ1 E1 hI
  have hget:(parX l)[k]::(parX l).drop (k+1)=if e=0 then okX op::parX l2 else [badX e]:=by rw[←List.drop_eq_getElem_cons hlt];exact hdrop
  by_cases he:e=0
  ·subst he
   rw[if_pos rfl] at hget
   obtain ⟨g1,g2⟩:=List.cons.inj hget
   rw[g1,okX,opA] at hyk
   rw[opC] at hyk
   simp[opA,opC,hsc]
   intro t ht
   simp only[ite_none] at ht
   obtain ⟨ht1,ht⟩:=ht
   simp[Ne.symm ht1]
   have hcur:Store.sub τ1 ((τ1.upd y [.list o' 1 (bytesA l2), .lit (.int .i64 0)]).upd t [.lit (.int .i64 op.kind), .lit (.int .i64 op.addr),byteA op.code, .lit (.bool op.graph),byteA op.fa, .list false 2 (pairsA op.pairs), .list false 1 (bytesA op.text)]):=
    Store.sub_upd (by simp[ht]) (Store.sub_upd hy1 (Store.sub_refl _))
   refine yieldK.of (by simp) hyk hcur ?_
   intro b4 τ' E' hR hap
   have hy':τ' y=none:=hap y hy1 (by simp[Ne.symm ht1])
   have hov:=over_at (X:=[.list o' 1 (bytesA l2), .lit (.int .i64 0)]) (ρ:=τ1) hy1 hy' (cur:=((τ1.upd y [.list o' 1 (bytesA l2), .lit (.int .i64 0)]).upd t [.lit (.int .i64 op.kind), .lit (.int .i64 op.addr),byteA op.code, .lit (.bool op.graph),byteA op.fa, .list false 2 (pairsA op.pairs), .list false 1 (bytesA op.text)])) (by simp[Ne.symm ht1])
   cases b4
   ·simp
    exact ⟨⟨_,AV.le_refl _⟩,_,Store.sub_refl _,τ',Store.sub_over _ _ _, .inr (by simpa using hR)⟩
   ·simp[-Bool.exists_bool]
    refine ⟨k+1,l2, ?_⟩
    cases o'
    ·exact .inl ⟨τ',⟨by omega,by omega,hy',g2⟩,hlen,hov,by simpa using hR⟩
    ·exact .inr ⟨τ',⟨by omega,by omega,hy',g2⟩,hlen,hov,by simpa using hR⟩
  ·rw[if_neg he] at hget
   obtain ⟨g1,g2⟩:=List.cons.inj hget
   rw[g1,badX] at hyk
   simp[opA,opC,hsc]
   intro t ht
   simp only[ite_none] at ht
   obtain ⟨ht1,ht⟩:=ht
   have he':¬(e:Int)=0:=by omega
   have hz:opA {} = .agg [.lit (.int .i64 0), .lit (.int .i64 0), .lit (.int .u8 0), .lit (.bool false), .lit (.int .u8 0), .list false 2 [], .list false 1 []]:=rfl
   rw[hz] at hyk
   simp[Ne.symm ht1,he]
   have hcur:Store.sub τ1 ((τ1.upd y [.list o' 1 (bytesA l2), .lit (.int .i64 e)]).upd t [.lit (.int .i64 op.kind), .lit (.int .i64 op.addr),byteA op.code, .lit (.bool op.graph),byteA op.fa, .list false 2 (pairsA op.pairs), .list false 1 (bytesA op.text)]):=
    Store.sub_upd (by simp[ht]) (Store.sub_upd hy1 (Store.sub_refl _))
   refine yieldK.of (args':=[.agg [.lit (.int .i64 0), .lit (.int .i64 0), .lit (.int .u8 0), .lit (.bool false), .lit (.int .u8 0), .list false 2 [], .list false 1 []], .lit (.int .i64 e)]) ?_ hyk hcur ?_
   ·exact ⟨AV.le_agg ⟨AV.le1_refl _,AV.le1_refl _,AV.le1_refl _,AV.le1_refl _,AV.le1_refl _,AV.le1_list _ _ _,AV.le1_list _ _ _,trivial⟩,AV.le_refl _,trivial⟩
   ·intro b4 τ' E' hR hap
    have hend:k+1=(parX l).length:=by
     have:=congrArg List.length g2
     simp at this;omega
    simp
    refine ⟨⟨_,AV.le_refl _⟩,_,Store.sub_refl _,τ',Store.sub_over _ _ _, ?_⟩
    cases b4
    ·exact .inr (by simpa using hR)
    ·exact .inl (by rw[←hend];simpa using hR)
end Go.Proofs.YtjnopnpkfhopbaaGreatDoor
