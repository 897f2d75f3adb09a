/-
 The screen as the document has it: cells, fields; in plain Lean.
-/
import Derived.Test.YtjnopnpkfhopbaaGreatDoorPart13
set_option linter.unusedSimpArgs false
set_option linter.unusedVariables false
set_option maxRecDepth 8000
set_option maxHeartbeats 8000000
namespace Go.Sp
structure Cell where
 char:UInt8:=0
 attr:Bool:=false
 fa:UInt8:=0
 high:UInt8:=0
 color:UInt8:=0
 set:UInt8:=0
 deriving DecidableEq,Inhabited
def Cell.zero:Cell:= {}
def six (b:UInt8):UInt8:=b&&&0x3d
def fit (c:Cell):Cell:=if c.attr=true then {c with char:=0,fa:=six c.fa} else {c with fa:=0}
theorem six_six (b:UInt8):six (six b)=six b:=by simp[six,UInt8.and_assoc]
theorem fit_fit (c:Cell):fit (fit c)=fit c:=by
 unfold fit
 by_cases h:c.attr=true<;>simp[h,six_six]
def fitted (c:Cell):Prop:=fit c=c
theorem fitted_fit (c:Cell):fitted (fit c):=fit_fit c
theorem fitted_zero:fitted .zero:=rfl
def wrap (n:Nat) (k:Int):Nat:=(k % (n:Int)).toNat
theorem wrap_lt {n:Nat} (h:0<n) (k:Int):wrap n k<n:=by
 unfold wrap
 have h1:=Int.emod_nonneg k (show (n:Int)≠0 by omega)
 have h2:=Int.emod_lt_of_pos k (show (0:Int)<n by omega)
 omega
theorem wrap_of_lt {n k:Nat} (h:k<n):wrap n k=k:=by
 unfold wrap
 rw[Int.emod_eq_of_lt (by omega) (by omega)];simp
def dims (model:Nat) (alt:Bool):Nat×Nat:=if alt=true then (if model=3 then (32,80) else if model=4 then (43,80) else if model=5 then (27,132) else (24,80)) else (24,80)
structure Sp where
 model:Nat
 alt:Bool
 cells:List Cell
 cursor:Nat
def Sp.rows (s:Sp):Nat:=(dims s.model s.alt).1
def Sp.cols (s:Sp):Nat:=(dims s.model s.alt).2
def Sp.n (s:Sp):Nat:=s.rows*s.cols
structure Sp.good (s:Sp):Prop where
 model:2≤s.model∧s.model≤5
 len:s.cells.length=s.n
 cursor:s.cursor<s.n
 fit:∀c∈s.cells,fitted c
theorem dims_bound (m:Nat) (a:Bool):24≤(dims m a).1∧(dims m a).1≤43∧80≤(dims m a).2∧(dims m a).2≤132∧1920≤(dims m a).1*(dims m a).2∧(dims m a).1*(dims m a).2≤3564:=by
 unfold dims
 cases a<;>simp
 (repeat' split)<;>simp
theorem Sp.n_pos (s:Sp):0<s.n:=by have:=dims_bound s.model s.alt;unfold Sp.n Sp.rows Sp.cols;omega
theorem Sp.n_le (s:Sp):s.n≤3564:=by have:=dims_bound s.model s.alt;unfold Sp.n Sp.rows Sp.cols;omega
def Sp.clear (s:Sp) (alt:Bool):Sp:= {s with alt:=alt,cells:=List.replicate ((dims s.model alt).1*(dims s.model alt).2) .zero,cursor:=0}
def Sp.new (model:Nat):Sp:=Sp.clear ⟨model,false,[],0⟩ false
def Sp.at (s:Sp) (k:Int):Cell:=s.cells[wrap s.n k]?.getD .zero
def Sp.put1 (s:Sp) (i:Nat) (c:Cell):Sp:= {s with cells:=s.cells.set i c}
def Sp.set (s:Sp) (k:Int) (c:Cell):Sp:=s.put1 (wrap s.n k) (Sp.fit c)
def Sp.put (s:Sp) (k:Int) (code:UInt8):Sp:=if (s.at k).attr=true then s else s.set k {s.at k with char:=code}
def Sp.place (s:Sp) (k:Int):Sp:= {s with cursor:=wrap s.n k}
def Sp.count (s:Sp):Nat:=s.cells.countP (·.attr)
def Sp.attrs (s:Sp):List Nat:=(List.range s.cells.length).filter fun i=>(s.cells[i]?.getD .zero).attr
theorem Sp.clear_good {s:Sp} (h:2≤s.model∧s.model≤5) (alt:Bool):(s.clear alt).good:=by
 have:=dims_bound s.model alt
 refine ⟨h,by simp[Sp.clear,Sp.n,Sp.rows,Sp.cols], ?_,fun c hc=> ?_⟩
 ·show 0<(dims s.model alt).1*(dims s.model alt).2;omega
 ·simp[Sp.clear] at hc;rw[hc.2];exact fitted_zero
theorem Sp.n_put1 (s:Sp) (i:Nat) (c:Cell):(s.put1 i c).n=s.n:=rfl
theorem Sp.good.put1 {s:Sp} (h:s.good) (i:Nat) {c:Cell} (hc:fitted c):(s.put1 i c).good:=by
 refine ⟨h.model,by rw[Sp.n_put1];simp[Sp.put1,h.len],h.cursor,fun d hd=> ?_⟩
 rcases List.mem_or_eq_of_mem_set hd with h'|h'
 ·exact h.fit d h'
 ·rw[h'];exact hc
theorem Sp.good.set {s:Sp} (h:s.good) (k:Int) (c:Cell):(s.set k c).good:=Sp.good.put1 h _ (fitted_fit c)
theorem Sp.good.place {s:Sp} (h:s.good) (k:Int):(s.place k).good:=⟨h.model,h.len,wrap_lt s.n_pos k,h.fit⟩
theorem Sp.good.put {s:Sp} (h:s.good) (k:Int) (code:UInt8):(s.put k code).good:=by
 unfold Sp.put;split
 ·exact h
 ·exact Sp.good.set h _ _
structure Act where
 what:UInt8
 n:Int
 on:Bool
 code:UInt8
 c:Cell
 text:List UInt8
def putAll (s:Sp) (k:Int):Nat→List UInt8→Sp
 |_,[]=>s
 |i,c::l=>putAll (s.put (k+i) c) k (i+1) l
def Sp.act (s:Sp) (a:Act):Sp:=
 if a.what.toNat % 6=0 then s.clear a.on else if a.what.toNat % 6=1 then s.place a.n else if a.what.toNat % 6=2 then s.put a.n a.code else
 if a.what.toNat % 6=3 then s.set a.n {attr:=true,fa:=a.code} else if a.what.toNat % 6=4 then s.set a.n a.c else putAll s (wrap s.n a.n) 0 (a.text.take 200)
theorem Sp.model_put (s:Sp) (k:Int) (c:UInt8):(s.put k c).model=s.model∧(s.put k c).alt=s.alt:=by
 unfold Sp.put;split<;>exact ⟨rfl,rfl⟩
theorem putAll_good (k:Int):∀(l:List UInt8) (i:Nat) {s:Sp},s.good→(putAll s k i l).good
 |[],_,_,h=>h
 |_::l,i,_,h=>putAll_good k l (i+1) (Sp.good.put h _ _)
theorem putAll_model (k:Int):∀(l:List UInt8) (i:Nat) (s:Sp),(putAll s k i l).model=s.model
 |[],_,_=>rfl
 |c::l,i,s=>(putAll_model k l (i+1) _).trans (s.model_put _ c).1
theorem putAll_alt (k:Int):∀(l:List UInt8) (i:Nat) (s:Sp),(putAll s k i l).alt=s.alt
 |[],_,_=>rfl
 |c::l,i,s=>(putAll_alt k l (i+1) _).trans (s.model_put _ c).2
theorem putAll_n (k:Int) (l:List UInt8) (i:Nat) (s:Sp):(putAll s k i l).n=s.n:=by
 simp only[Sp.n,Sp.rows,Sp.cols,putAll_model,putAll_alt]
theorem Sp.good.act {s:Sp} (h:s.good) (a:Act):(s.act a).good:=by
 unfold Sp.act
 (repeat' split)
 ·exact Sp.clear_good h.model _
 ·exact h.place _
 ·exact Sp.good.put h _ _
 ·exact Sp.good.set h _ _
 ·exact Sp.good.set h _ _
 ·exact putAll_good _ _ _ h
theorem Sp.model_act (s:Sp) (a:Act):(s.act a).model=s.model:=by
 unfold Sp.act
 (repeat' split)<;>first|rfl|exact (s.model_put _ _).1|exact putAll_model _ _ _ _
def lays (model:UInt8) (acts:List Act):Sp:=(acts.take 30).foldl Sp.act (Sp.new (2+model.toNat % 4))
theorem new_good {m:Nat} (h:2≤m∧m≤5):(Sp.new m).good:=Sp.clear_good h false
theorem foldl_good:∀(l:List Act) {s:Sp},s.good→(l.foldl Sp.act s).good
 |[],_,h=>h
 |a::l,_,h=>foldl_good l (h.act a)
theorem lays_good (model:UInt8) (acts:List Act):(lays model acts).good:=foldl_good _ (new_good ⟨by omega,by omega⟩)
end Go.Sp
namespace Go.Sp
def attrAt (l:List Cell) (i:Nat):Bool:=(l[i]?.getD .zero).attr
def lastA (l:List Cell) (init:Int):Nat→Int
 |0=>init
 |m+1=>if attrAt l m=true then (m:Int) else lastA l init m
theorem lastA_none {l:List Cell} {init:Int} :∀ {m:Nat},(∀i,i<m→attrAt l i=false)→lastA l init m=init
 |0,_=>rfl
 |m+1,h=>by
  rw[lastA,if_neg (by rw[h m (by omega)];simp)]
  exact lastA_none fun i hi=>h i (by omega)
theorem lastA_at {l:List Cell} {init:Int} {a:Nat} (ha:attrAt l a=true):∀ {m:Nat},a<m→(∀i,a<i→i<m→attrAt l i=false)→lastA l init m=a
 |m+1,hm,h=>by
  by_cases hma:m=a
  ·subst hma;rw[lastA,if_pos ha]
  ·rw[lastA,if_neg (by rw[h m (by omega) (by omega)];simp)]
   exact lastA_at ha (by omega) fun i h1 h2=>h i h1 (by omega)
def startS (l:List Cell) (n:Nat):Int:=lastA l (lastA l (-1) l.length) (n+1)
theorem startS_in {l:List Cell} {a i:Nat} (ha:attrAt l a=true) (hal:a<l.length) (hi:i<l.length) (h:∀j,1≤j→j≤i→attrAt l ((a+j) % l.length)=false):startS l ((a+i) % l.length)=a:=by
 have at_:∀x,a<x→x≤a+i→x<l.length→attrAt l x=false:=fun x h1 h2 h3=>by
  have:=h (x-a) (by omega) (by omega)
  rwa[show a+(x-a)=x by omega,Nat.mod_eq_of_lt h3] at this
 by_cases hc:a+i<l.length
 ·rw[Nat.mod_eq_of_lt hc]
  exact lastA_at ha (by omega) fun x h1 h2=>at_ x h1 (by omega) (by omega)
 ·have hm:(a+i) % l.length=a+i-l.length:=by rw[Nat.mod_eq_sub_mod (by omega),Nat.mod_eq_of_lt (by omega)]
  rw[hm,startS,lastA_none fun x hx=> ?_]
  ·exact lastA_at ha hal fun x h1 h2=>at_ x h1 (by omega) h2
  ·have:=h (x+l.length-a) (by omega) (by omega)
   rwa[show a+(x+l.length-a)=x+l.length by omega,Nat.add_mod_right,Nat.mod_eq_of_lt (by omega)] at this
def run (l:List Cell) (a:Nat):Nat→Nat
 |0=>0
 |m+1=>if run l a m=m∧attrAt l ((a+m+1) % l.length)=false then m+1 else run l a m
theorem run_le (l:List Cell) (a:Nat):∀m,run l a m≤m
 |0=>Nat.le_refl _
 |m+1=>by rw[run];split<;>have:=run_le l a m<;>omega
theorem run_free {l:List Cell} {a:Nat} :∀ {m j:Nat},1≤j→j≤run l a m→attrAt l ((a+j) % l.length)=false
 |0,j,h1,h2=>by simp[run] at h2;omega
 |m+1,j,h1,h2=>by
  rw[run] at h2
  split at h2
  ·rename_i hc
   by_cases hj:j=m+1
   ·subst hj;exact hc.2
   ·exact run_free (m:=m) h1 (by omega)
  ·exact run_free (m:=m) h1 h2
theorem run_stop {l:List Cell} {a:Nat} :∀ {m:Nat},run l a m<m→attrAt l ((a+run l a m+1) % l.length)=true
 |m+1,h=>by
  rw[run] at h⊢
  split at h
  ·omega
  ·rename_i hc
   rw[if_neg hc]
   by_cases hm:run l a m=m
   ·have:¬attrAt l ((a+m+1) % l.length)=false:=fun hf=>hc ⟨hm,hf⟩
    rw[hm];simpa using this
   ·exact run_stop (by have:=run_le l a m;omega)
def len (l:List Cell) (a:Nat):Nat:=run l a (l.length-1)
def places (l:List Cell) (a:Nat):List Nat:=(List.range (len l a)).map fun i=>(a+i+1) % l.length
theorem len_lt {l:List Cell} {a:Nat} (h:a<l.length):len l a<l.length:=by have:=run_le l a (l.length-1);unfold len;omega
theorem len_stop {l:List Cell} {a:Nat} (ha:attrAt l a=true) (hal:a<l.length):attrAt l ((a+len l a+1) % l.length)=true:=by
 by_cases h:run l a (l.length-1)<l.length-1
 ·exact run_stop h
 ·have:=run_le l a (l.length-1)
  have e:len l a=l.length-1:=by unfold len;omega
  rw[e,show a+(l.length-1)+1=a+l.length by omega,Nat.add_mod_right,Nat.mod_eq_of_lt hal];exact ha
theorem len_free {l:List Cell} {a j:Nat} (h1:1≤j) (h2:j≤len l a):attrAt l ((a+j) % l.length)=false:=run_free h1 h2
def rot (l:List Cell) (a:Nat):List Cell:=l.drop (a+1)++l.take a
def fieldCells (l:List Cell) (a:Nat):List Cell:=(rot l a).takeWhile fun c=> !c.attr
theorem takeWhile_cut {α:Type} {p:α→Bool} :∀ {L:List α} {k:Nat},k≤L.length→(∀i x,i<k→L[i]?=some x→p x=true)→(∀x,L[k]?=some x→p x=false)→L.takeWhile p=L.take k
 |[],k,h,_,_=>by simp
 |x::L,0,h,_,h2=>by
  have:=h2 x rfl
  simp[this]
 |x::L,k+1,h,h1,h2=>by
  have hx:=h1 0 x (by omega) rfl
  rw[List.takeWhile_cons,if_pos hx,List.take_succ_cons]
  rw[takeWhile_cut (k:=k) (by simpa using h) (fun i y hi hy=>h1 (i+1) y (by omega) (by simpa using hy)) (fun y hy=>h2 y (by simpa using hy))]
def Sp.modified (s:Sp):List Nat:=s.attrs.filter fun a=>(s.cells[a]?.getD .zero).fa&&&1==1
theorem mem_attrs {s:Sp} {a:Nat} (h:a∈s.attrs):a<s.cells.length∧attrAt s.cells a=true:=by
 simp only[Sp.attrs,List.mem_filter,List.mem_range] at h
 exact h
end Go.Sp
namespace Go.Proofs.YtjnopnpkfhopbaaGreatDoor
open Go Go.AL Go.Sp
structure Dim (r c:Nat):Prop where
 r1:1≤r
 r2:r≤43
 c1:1≤c
 c2:c≤132
 m:r*c≤3564
 p:0<r*c
theorem dim_of (m:Nat) (a:Bool):Dim (dims m a).1 (dims m a).2:=by
 have:=dims_bound m a
 exact ⟨by omega,by omega,by omega,by omega,by omega,by omega⟩
theorem mul_wrap {r c:Nat} (h:Dim r c):IntKind.i64.wrap ((r:Int)*(c:Int))=((r*c:Nat):Int):=by
 have:=h.m
 rw[←Int.natCast_mul,wrap_i64 (by omega) (by omega)]
def dimA (r c:Nat):AV:= .agg [.lit (.int .i64 r), .lit (.int .i64 c)]
theorem tmod_wrap (n:Int) (m:Nat) (h:0<m):n.tmod m=(wrap m n:Int)-if n.tmod m<0 then (m:Int) else 0:=by
 unfold wrap
 have h1:=Int.emod_nonneg n (show (m:Int)≠0 by omega)
 have h2:=Int.emod_lt_of_pos n (show (0:Int)<m by omega)
 have h3:=Int.tmod_eq_emod (a:=n) (b:=m)
 have h4:((n % (m:Int)).toNat:Int)=n % m:=Int.toNat_of_nonneg h1
 rw[h4]
 rw[h3]
 split
 ·simp;omega
 ·rename_i hc
  have h5:¬n % (m:Int)=0:=fun he=>hc (.inr (Int.dvd_of_emod_eq_zero he))
  have h6:(m:Int).natAbs=m:=by simp
  rw[h6]
  rw[if_pos (by omega)]
theorem rest_calls (n:Int) (m:Nat) (h:0<m) (hm:m≤1000000) (σ:Store):ACalls Tryz.prog 75 [.lit (.int .i64 n), .lit (.int .i64 m)] σ fun v σ'=>v= .lit (.int .i64 (wrap m n))∧σ'=σ:=by
 have ht:=tmod_wrap n m h
 have hw:=wrap_lt h n
 have h0:¬m=0:=by omega
 refine aw st75 pl75 14 Tryz.func75 rfl ?_
 by_cases hc:n.tmod m<0
 ·rw[if_pos hc] at ht
  have hs:IntKind.i64.wrap (n.tmod m+(m:Int))=(wrap m n:Int):=by rw[wrap_i64 (by omega) (by omega)];omega
  simp[h0,hc,hs]
 ·rw[if_neg hc] at ht
  have hs:n.tmod m=(wrap m n:Int):=by omega
  rw[hs] at hc
  simp[h0,hc,hs]
theorem valid_calls {r c:Nat} (h:Dim r c) (σ:Store):ACalls Tryz.prog 74 [dimA r c] σ fun v σ'=>v= .lit (.bool true)∧σ'=σ:=by
 have hm:=mul_wrap h
 obtain ⟨h1,h2,h3,h4,h5,h6⟩:=h
 have k1:(1:Int)≤r:=by omega
 have k2:(r:Int)≤43:=by omega
 have k3:(1:Int)≤c:=by omega
 have k4:(c:Int)≤132:=by omega
 have k5:(((r*c:Nat):Int))≤3564:=by omega
 generalize r*c=m at*
 refine aw st74 pl74 29 Tryz.func74 rfl ?_
 simp+contextual [dimA,k1,k2,k3,k4,k5,hm]
theorem cells_calls {r c:Nat} (h:Dim r c) (σ:Store):ACalls Tryz.prog 49 [dimA r c] σ fun v σ'=>v= .lit (.int .i64 ((r*c:Nat):Int))∧σ'=σ:=by
 have hm:=mul_wrap h
 have hv:=valid_calls h
 unfold dimA at hv
 generalize r*c=m at*
 refine aw st49 pl49 11 Tryz.func49 rfl ?_
 simp[dimA]
 intro p hp
 refine callK.of (hv _) ?_
 rintro v σ' ⟨rfl,rfl⟩
 simp[hm,hp]
theorem wrap_calls {r c:Nat} (h:Dim r c) (n:Int) (σ:Store):ACalls Tryz.prog 40 [dimA r c, .lit (.int .i64 n)] σ fun v σ'=>v= .lit (.int .i64 (wrap (r*c) n))∧σ'=σ:=by
 have hv:=valid_calls h
 have hc:=cells_calls h
 have hr:=rest_calls n (r*c) h.p (by have:=h.m;omega)
 unfold dimA at hv hc
 generalize r*c=m at*
 refine aw st40 pl40 12 Tryz.func40 rfl ?_
 simp[dimA]
 intro p hp
 refine callK.of (hv _) ?_
 rintro v σ' ⟨rfl,rfl⟩
 simp
 refine callK.of (hc _) ?_
 rintro v σ' ⟨rfl,rfl⟩
 simp
 refine callK.of (hr _) ?_
 rintro v σ' ⟨rfl,rfl⟩
 simp[hp]
theorem tmod_abs (n:Int) (m:Nat) (h:0<m): -(m:Int)<n.tmod m∧n.tmod m<m:=by
 have h1:(n.tmod m).natAbs=n.natAbs % m:=by rw[Int.natAbs_tmod];simp
 have h2:=Nat.mod_lt n.natAbs h
 omega
theorem rmod_calls (n:Int) (m:Nat) (h:0<m) (hm:m≤1000000) (σ:Store):ACalls Tryz.prog 97 [.lit (.int .i64 n), .lit (.int .i64 m)] σ fun v σ'=>v= .lit (.int .i64 (wrap m n))∧σ'=σ:=by
 have ht:=tmod_abs n m h
 have h0:¬m=0:=by omega
 have h1:¬(m:Int)<1:=by omega
 have hs:IntKind.i64.wrap (n.tmod m+(m:Int))=n.tmod m+m:=wrap_i64 (by omega) (by omega)
 have he:(n.tmod m+(m:Int)).tmod m=(wrap m n:Int):=by
  have h2:=tmod_wrap n m h
  have h3:=wrap_lt h n
  rw[Int.tmod_eq_emod_of_nonneg (by omega)]
  split at h2
  ·rw[h2,show ((wrap m n:Int)-m+m)=(wrap m n:Int) by omega]
   exact Int.emod_eq_of_lt (by omega) (by omega)
  ·rw[h2,show ((wrap m n:Int)-0+m)=(wrap m n:Int)+m by omega,Int.add_emod_right]
   exact Int.emod_eq_of_lt (by omega) (by omega)
 refine aw st97 pl97 14 Tryz.func97 rfl ?_
 simp[h0,h1,hs,he]
theorem rvalid_calls {r c:Nat} (h:Dim r c) (σ:Store):ACalls Tryz.prog 106 [dimA r c] σ fun v σ'=>v= .lit (.bool true)∧σ'=σ:=by
 have hm:=mul_wrap h
 obtain ⟨h1,h2,h3,h4,h5,h6⟩:=h
 have k1:(1:Int)≤r:=by omega
 have k2:(r:Int)≤43:=by omega
 have k3:(1:Int)≤c:=by omega
 have k4:(c:Int)≤132:=by omega
 have k5:(((r*c:Nat):Int))≤3564:=by omega
 generalize r*c=m at*
 refine aw st106 pl106 29 Tryz.func106 rfl ?_
 simp+contextual [dimA,k1,k2,k3,k4,k5,hm]
theorem rcells_calls {r c:Nat} (h:Dim r c) (σ:Store):ACalls Tryz.prog 77 [dimA r c] σ fun v σ'=>v= .lit (.int .i64 ((r*c:Nat):Int))∧σ'=σ:=by
 have hm:=mul_wrap h
 have hv:=rvalid_calls h
 unfold dimA at hv
 generalize r*c=m at*
 refine aw st77 pl77 11 Tryz.func77 rfl ?_
 simp[dimA]
 intro p hp
 refine callK.of (hv _) ?_
 rintro v σ' ⟨rfl,rfl⟩
 simp[hm,hp]
theorem rwrap_calls {r c:Nat} (h:Dim r c) (n:Int) (σ:Store):ACalls Tryz.prog 78 [dimA r c, .lit (.int .i64 n)] σ fun v σ'=>v= .lit (.int .i64 (wrap (r*c) n))∧σ'=σ:=by
 have hc:=rcells_calls h
 have hr:=rmod_calls n (r*c) h.p (by have:=h.m;omega)
 unfold dimA at hc
 generalize r*c=m at*
 refine aw st78 pl78 9 Tryz.func78 rfl ?_
 simp[dimA]
 intro p hp
 refine callK.of (hc _) ?_
 rintro v σ' ⟨rfl,rfl⟩
 simp
 refine callK.of (hr _) ?_
 rintro v σ' ⟨rfl,rfl⟩
 simp[hp]
@[simp] theorem wr3:IntKind.i64.wrap 3=3:=by decide
theorem model_cases {m:Nat} (h:2≤m∧m≤5):m=2∨m=3∨m=4∨m=5:=by omega
def dimM (m:Nat):AV:=dimA (dims m true).1 (dims m true).2
theorem model_calls {m:Nat} (h:2≤m∧m≤5) (σ:Store):ACalls Tryz.prog 43 [.lit (.int .i64 m)] σ fun v σ'=>v= .tuple [dimM m, .lit (.int .i64 0)]∧σ'=σ:=by
 refine aw st43 pl43 18 Tryz.func43 rfl ?_
 rcases model_cases h with rfl|rfl|rfl|rfl<;>
  (simp+contextual [dimM,dimA,dims])
theorem rmodel_calls {m:Nat} (h:2≤m∧m≤5) (σ:Store):ACalls Tryz.prog 44 [.lit (.int .i64 m)] σ fun v σ'=>v= .tuple [dimM m, .lit (.bool true)]∧σ'=σ:=by
 refine aw st44 pl44 20 Tryz.func44 rfl ?_
 rcases model_cases h with rfl|rfl|rfl|rfl<;>
  (simp+contextual [dimM,dimA,dims];try decide)
structure Fld where
 prot:Bool
 num:Bool
 disp:Nat
 mod:Bool
 deriving DecidableEq
def fld (b:UInt8):Fld:=⟨b&&&0x20 !=0,b&&&0x10 !=0,(b.toNat/4) % 4,b&&&1==1⟩
def fldA (f:Fld):AV:= .agg [.lit (.bool f.prot), .lit (.bool f.num), .lit (.int .i64 f.disp), .lit (.bool f.mod)]
def bitsN (f:Fld):Nat:=4*f.disp+(if f.prot=true then 32 else 0)+(if f.num=true then 16 else 0)+(if f.mod=true then 1 else 0)
theorem bits_fld (b:UInt8):UInt8.ofNat (bitsN (fld b))=Sp.six b∧bitsN (fld b)<64:=all_bytes (p:=fun b=>UInt8.ofNat (bitsN (fld b))=Sp.six b∧bitsN (fld b)<64) (by decide+kernel) b
theorem fld_ref (b:UInt8):decide (32≤b.toNat % 64)=(fld b).prot∧decide (b.toNat % 64/16 % 2=1)=(fld b).num∧b.toNat % 64/4 % 4=(fld b).disp∧decide (b.toNat % 64 % 2=1)=(fld b).mod:=
 all_bytes (p:=fun b=>decide (32≤b.toNat % 64)=(fld b).prot∧decide (b.toNat % 64/16 % 2=1)=(fld b).num∧b.toNat % 64/4 % 4=(fld b).disp∧decide (b.toNat % 64 % 2=1)=(fld b).mod) (by decide+kernel) b
theorem fld_disp (b:UInt8):(fld b).disp≤3:=by unfold fld;simp only;omega
theorem rof_calls (b:UInt8) (σ:Store):ACalls Tryz.prog 95 [byteA b] σ fun v σ'=>v=fldA (fld b)∧σ'=σ:=by
 obtain ⟨h1,h2,h3,h4⟩:=fld_ref b
 rw[fldA,←h1,←h2,←h3,←h4]
 have hb:=byte_lt b
 refine aw st95 pl95 20 Tryz.func95 rfl ?_
 simp[byteA]
 intro p hp
 have e1:(b.toNat:Int).tmod 64=((b.toNat % 64:Nat):Int):=rfl
 have hw:IntKind.i64.wrap (b.toNat:Int)=(b.toNat:Int):=wrap_i64 (by omega) (by omega)
 rw[hw,e1]
 have hk:b.toNat % 64<64:=Nat.mod_lt _ (by omega)
 obtain ⟨k,hkk⟩:∃k,b.toNat % 64=k:=⟨_,rfl⟩
 rw[hkk] at hk⊢
 have e2:(k:Int).tdiv 16=((k/16:Nat):Int):=rfl
 have e3:(k:Int).tdiv 4=((k/4:Nat):Int):=rfl
 have e4:(k:Int).tmod 2=((k % 2:Nat):Int):=rfl
 have w2:IntKind.i64.wrap ((k/16:Nat):Int)=((k/16:Nat):Int):=wrap_i64 (by omega) (by omega)
 have w3:IntKind.i64.wrap ((k/4:Nat):Int)=((k/4:Nat):Int):=wrap_i64 (by omega) (by omega)
 have e5:((k/16:Nat):Int).tmod 2=((k/16 % 2:Nat):Int):=rfl
 have e6:((k/4:Nat):Int).tmod 4=((k/4 % 4:Nat):Int):=rfl
 simp only[e2,e3,w2,w3,e5,e6]
 try rw[e4]
 have q:∀n:Nat,((n:Int)==1)=decide (n=1):=fun n=>by
  rw[Bool.eq_iff_iff];simp;omega
 have q2:decide ((32:Int)≤k)=decide (32≤k):=by
  rw[Bool.eq_iff_iff];simp;omega
 try simp only[q,q2]
 have e7:((b.toNat:Int).tmod 2==1)=decide (b.toNat % 2=1):=q (b.toNat % 2)
 have e8:((k/4 % 4:Nat):Int)=(b.toNat:Int) % 64/4 % 4:=by omega
 rw[e7,e8]
 exact ⟨by simp,by (intro q;simp only[Store.upd,Store.del];(repeat' split)<;>first|exact Or.inr rfl|exact Or.inl rfl|(exfalso;omega)|(left;subst_vars;assumption)|simp_all)⟩
theorem rbits_calls (b:UInt8) (σ:Store):ACalls Tryz.prog 94 [fldA (fld b)] σ fun v σ'=>v= .tuple [byteA (Sp.six b), .lit (.int .i64 0)]∧σ'=σ:=by
 obtain ⟨h1,h2⟩:=bits_fld b
 have hd:=fld_disp b
 rw[←h1]
 generalize fld b=f at*
 obtain ⟨p,n,d,m⟩:=f
 simp only at hd
 have hd4:d=0∨d=1∨d=2∨d=3:=by omega
 refine aw st94 pl94 30 Tryz.func94 rfl ?_
 clear h1 h2
 rcases hd4 with rfl|rfl|rfl|rfl<;>cases p<;>cases n<;>cases m<;>
  (simp+contextual [fldA,bitsN,byteA,tInt]
   exact fun _ _=>le_of_eq rfl)
theorem rsix_calls (b:UInt8) (σ:Store):ACalls Tryz.prog 63 [byteA b] σ fun v σ'=>v=byteA (Sp.six b)∧σ'=σ:=by
 have h1:=rof_calls b
 have h2:=rbits_calls b
 generalize Sp.six b=s at*
 generalize fld b=f at*
 have e:byteA b= .lit (.int .u8 b.toNat):=rfl
 rw[e] at h1⊢
 have e2:byteA s= .lit (.int .u8 s.toNat):=rfl
 rw[e2] at h2⊢
 refine aw st63 pl63 12 Tryz.func63 rfl ?_
 simp
 refine callK.of (h1 _) ?_
 rintro v σ' ⟨rfl,rfl⟩
 simp[fldA]
 refine callK.of (h2 _) ?_
 rintro v σ' ⟨rfl,rfl⟩
 simp
def cellC (c:Cell):List AV:=[byteA c.char, .lit (.bool c.attr),byteA c.fa,byteA c.high,byteA c.color,byteA c.set]
def cellA (c:Cell):AV:= .agg (cellC c)
def cellsO (l:List Cell):List AV:=l.flatMap cellC
theorem cellC_length (c:Cell):(cellC c).length=6:=rfl
theorem cellsO_length (l:List Cell):(cellsO l).length=l.length*6:=by
 induction l with
 |nil=>rfl
 |cons c l ih=>simp only[cellsO,List.flatMap_cons,List.length_append,List.length_cons,cellC_length] at ih⊢;omega
theorem cellsO_drop (l:List Cell) (i:Nat):(cellsO l).drop (i*6)=cellsO (l.drop i):=by
 induction i generalizing l with
 |zero=>simp
 |succ i ih=>
  cases l with
  |nil=>simp[cellsO]
  |cons c l=>
   rw[Nat.succ_mul,Nat.add_comm,←List.drop_drop]
   show List.drop (i*6) (List.drop 6 (cellC c++cellsO l))=cellsO (l.drop i)
   rw[show (6:Nat)=(cellC c).length from rfl,List.drop_left,cellC_length]
   exact ih l
theorem cellsO_get {l:List Cell} {i:Nat} (h:i<l.length):((cellsO l).drop (i*6)).take 6=cellC l[i]:=by
 rw[cellsO_drop,List.drop_eq_getElem_cons h]
 show List.take 6 (cellC l[i]++cellsO (l.drop (i+1)))=_
 rw[show (6:Nat)=(cellC l[i]).length from rfl,List.take_left]
theorem cellsO_get1 {l:List Cell} {i j:Nat} (h:i<l.length) (hj:j<6):(cellsO l)[i*6+j]?=(cellC l[i])[j]?:=by
 rw[←List.getElem?_drop,cellsO_drop,List.drop_eq_getElem_cons h]
 show (cellC l[i]++cellsO (l.drop (i+1)))[j]?=_
 rw[List.getElem?_append_left (by rw[cellC_length];exact hj)]
theorem cellsO_set {l:List Cell} {i:Nat} (h:i<l.length) (c:Cell):setRange (cellsO l) (i*6) (cellC c)=cellsO (l.set i c):=by
 apply List.ext_getElem?
 intro k
 rw[setRange_get _ _ _ _ (by rw[cellC_length,cellsO_length];omega)]
 by_cases hk:k<l.length*6
 ·have hkk:k=k/6*6+k % 6:=by omega
  have hlt:k/6<l.length:=by omega
  have hm:k % 6<6:=by omega
  have e2:(cellsO (l.set i c))[k]?=(cellC ((l.set i c)[k/6]'(by simpa using hlt)))[k % 6]?:=by
   conv=>lhs;rw[hkk]
   exact cellsO_get1 (by simpa using hlt) hm
  have e1:(cellsO l)[k]?=(cellC l[k/6])[k % 6]?:=by
   conv=>lhs;rw[hkk]
   exact cellsO_get1 hlt hm
  rw[e2,List.getElem_set]
  rw[cellC_length]
  by_cases hi:i=k/6
  ·rw[if_pos (by omega),if_pos hi]
   congr 1;omega
  ·rw[if_neg (by omega),if_neg hi,e1]
 ·rw[if_neg (by rw[cellC_length];omega),List.getElem?_eq_none (by rw[cellsO_length];omega),List.getElem?_eq_none (by rw[cellsO_length];simp;omega)]
theorem cellsO_zeros (n:Nat):(List.replicate n (cellC .zero)).flatten=cellsO (List.replicate n .zero):=by
 induction n with
 |zero=>rfl
 |succ n ih=>rw[List.replicate_succ,List.flatten_cons,ih,List.replicate_succ];rfl
def rowC (p n:Nat):AV:= .row p n
structure Scr (f:Sp→Nat→List AV) (σ:Store) (q p:Nat) (s:Sp):Prop where
 obj:σ q=some (f s p)
 row:σ p=some (cellsO s.cells)
 ne:q≠p
 good:s.good
def putS (f:Sp→Nat→List AV) (σ:Store) (q p:Nat) (s:Sp):Store:=(σ.upd q (f s p)).upd p (cellsO s.cells)
section
variable {f:Sp→Nat→List AV} {σ:Store} {q p:Nat} {s:Sp}
theorem Scr.fresh (h:Scr f σ q p s) {r:Nat} (hr:σ r=none):¬q=r∧¬p=r∧¬r=q∧¬r=p:=by
 have h1:¬q=r:=by rintro rfl;rw[h.obj] at hr;cases hr
 have h2:¬p=r:=by rintro rfl;rw[h.row] at hr;cases hr
 exact ⟨h1,h2,Ne.symm h1,Ne.symm h2⟩
theorem Scr.upd (h:Scr f σ q p s) {r:Nat} (hr:¬q=r∧¬p=r) (x:List AV):Scr f (σ.upd r x) q p s:=
 ⟨by simp[hr.1,h.obj],by simp[hr.2,h.row],h.ne,h.good⟩
theorem Scr.new (h:Scr f σ q p s) {r:Nat} (hr:σ r=none) (x:List AV):Scr f (σ.upd r x) q p s:=h.upd ⟨(h.fresh hr).1,(h.fresh hr).2.1⟩ x
theorem Scr.of_put (hne:q≠p) (hg:s.good):Scr f (putS f σ q p s) q p s:=⟨by simp[putS,hne],by simp[putS],hne,hg⟩
theorem Scr.put_self (h:Scr f σ q p s):putS f σ q p s=σ:=by rw[putS,upd_back h.obj,upd_back h.row]
end
def rfO (s:Sp) (p:Nat):List AV:=[.lit (.int .i64 s.model), .lit (.bool s.alt), .lit (.int .i64 s.rows), .lit (.int .i64 s.cols),rowC p s.n, .lit (.int .i64 s.cursor)]
abbrev Ref:=Scr rfO
theorem rswrap_calls {q p:Nat} {s:Sp} {σ:Store} (h:Ref σ q p s) (k:Int):ACalls Tryz.prog 46 [ptrA q, .lit (.int .i64 k)] σ fun v σ'=>v= .lit (.int .i64 (wrap s.n k))∧σ'=σ:=by
 have ho:=h.obj
 unfold rfO at ho
 have hw:=rwrap_calls (dim_of s.model s.alt) k
 rw[dimA] at hw
 change∀σ,ACalls Tryz.prog 78 [.agg [.lit (.int .i64 s.rows), .lit (.int .i64 s.cols)],_] σ fun v σ'=>v= .lit (.int .i64 (wrap s.n k))∧_ at hw
 refine aw st46 pl46 11 Tryz.func46 rfl ?_
 simp[ho]
 refine callK.of (hw _) ?_
 rintro v σ' ⟨rfl,rfl⟩
 simp
structure AtRow (s:Sp) (k:Int) (L:List AV) (c:Cell):Prop where
 lt:wrap s.n k<s.n
 le:wrap s.n k*6+6≤L.length
 get:(L.drop (wrap s.n k*6)).take 6=cellC c
theorem at_row {s:Sp} (h:s.good) (k:Int):AtRow s k (cellsO s.cells) (s.at k):=by
 have hlt:=wrap_lt s.n_pos k
 have hlen:=h.len
 have hlt':wrap s.n k<s.cells.length:=by omega
 refine ⟨hlt,by rw[cellsO_length];omega, ?_⟩
 rw[cellsO_get hlt']
 simp[Sp.at,hlt']
theorem rat_calls {q p:Nat} {s:Sp} {σ:Store} (h:Ref σ q p s) (k:Int):ACalls Tryz.prog 79 [ptrA q, .lit (.int .i64 k)] σ fun v σ'=>v=cellA (s.at k)∧σ'=σ:=by
 have ho:=h.obj
 have hr:=h.row
 have hw:=fun τ (ht:Ref τ q p s)=>rswrap_calls ht k
 obtain ⟨hlt,hlL,hg⟩:=at_row h.good k
 unfold rfO at ho
 generalize s.at k=c at*
 generalize cellsO s.cells=L at*
 refine aw st79 pl79 14 Tryz.func79 rfl ?_
 simp[ho,rowC]
 intro r hx
 obtain ⟨n1,n2,_⟩:=h.fresh hx
 simp[n1]
 refine ⟨?_, ?_⟩<;>
 ·refine callK.of (hw _ (h.new hx _)) ?_
  rintro v σ' ⟨rfl,rfl⟩
  simp[ho,hr,rowC,n1,n2,hlt,hlL,hg,cellC]
  exact ⟨AV.le_refl _,by (intro q;simp only[Store.upd,Store.del];(repeat' split)<;>first|exact Or.inr rfl|exact Or.inl rfl|(exfalso;omega)|(left;subst_vars;assumption)|simp_all)⟩
theorem rfit_calls (c:Cell) (σ:Store):ACalls Tryz.prog 80 [cellA c] σ fun v σ'=>v=cellA (Sp.fit c)∧σ'=σ:=by
 obtain ⟨ch,a,fa,hi,co,se⟩:=c
 have h6:=rsix_calls fa
 refine aw st80 pl80 12 Tryz.func80 rfl ?_
 cases a
 ·simp+contextual [cellA,cellC,ite_free,Sp.fit]
  intros
  exact ⟨AV.le_refl _,by (intro q;simp only[Store.upd,Store.del];(repeat' split)<;>first|exact Or.inr rfl|exact Or.inl rfl|(exfalso;omega)|(left;subst_vars;assumption)|simp_all)⟩
 ·simp+contextual [cellA,cellC,ite_free,Sp.fit]
  intro p hp q n1 n2 _
  refine callK.of (h6 _) ?_
  rintro v σ' ⟨rfl,rfl⟩
  simp[n1,n2]
  exact ⟨AV.le_refl _,by (intro q;simp only[Store.upd,Store.del];(repeat' split)<;>first|exact Or.inr rfl|exact Or.inl rfl|(exfalso;omega)|(left;subst_vars;assumption)|simp_all)⟩
theorem put_ref {σ:Store} {q p:Nat} {s:Sp} (h:Ref σ q p s) (k:Int) (c:Cell):putS rfO σ q p (s.set k c)=σ.upd p (cellsO (s.cells.set (wrap s.n k) (Sp.fit c))):=by
 have:rfO (s.set k c) p=rfO s p:=rfl
 rw[putS,this,upd_back h.obj];rfl
theorem rset_calls {q p:Nat} {s:Sp} {σ:Store} (h:Ref σ q p s) (k:Int) (c:Cell):ACalls Tryz.prog 48 [ptrA q, .lit (.int .i64 k),cellA c] σ fun v σ'=>v= .tuple []∧σ'=putS rfO σ q p (s.set k c):=by
 have ho:=h.obj
 have hr:=h.row
 have hw:=fun τ (ht:Ref τ q p s)=>rswrap_calls ht k
 have hf:=rfit_calls c
 obtain ⟨hlt,hlL,hg⟩:=at_row h.good k
 have hlt':wrap s.n k<s.cells.length:=by rw[h.good.len];exact hlt
 have hset:=cellsO_set hlt' (Sp.fit c)
 rw[put_ref h]
 unfold rfO at ho
 generalize Sp.fit c=d at*
 generalize cellsO (s.cells.set (wrap s.n k) d)=M at*
 generalize cellsO s.cells=L at*
 have hca:cellA c= .agg (cellC c):=rfl
 have hda:cellA d= .agg [byteA d.char, .lit (.bool d.attr),byteA d.fa,byteA d.high,byteA d.color,byteA d.set]:=rfl
 have hdc:cellC d=[byteA d.char, .lit (.bool d.attr),byteA d.fa,byteA d.high,byteA d.color,byteA d.set]:=rfl
 have hcc:cellC c=[byteA c.char, .lit (.bool c.attr),byteA c.fa,byteA c.high,byteA c.color,byteA c.set]:=rfl
 rw[hda] at hf
 rw[hdc] at hset
 rw[hca,hcc] at hf
 rw[hca,hcc]
 have hpq:¬p=q:=Ne.symm h.ne
 have hqp:¬q=p:=h.ne
 refine aw st48 pl48 16 Tryz.func48 rfl ?_
 simp[ho,rowC]
 intro r hx
 obtain ⟨n1,n2,n3,n4⟩:=h.fresh hx
 simp[n1]
 repeat' apply And.intro
 all_goals
  refine callK.of (hw _ (h.new hx _)) ?_
  rintro v σ' ⟨rfl,rfl⟩
  simp[ho,rowC,n1]
  repeat' apply And.intro
 all_goals
  refine callK.of (hf _) ?_
  rintro v σ' ⟨rfl,rfl⟩
  simp[-e_setRange_1, -e_setRange_2,ho,hr,rowC,n1,n2,hlt,hlL,hset]
  (intro q;simp only[Store.upd,Store.del];(repeat' split)<;>first|exact Or.inr rfl|exact Or.inl rfl|(exfalso;omega)|(left;subst_vars;assumption)|simp_all)
end Go.Proofs.YtjnopnpkfhopbaaGreatDoor
