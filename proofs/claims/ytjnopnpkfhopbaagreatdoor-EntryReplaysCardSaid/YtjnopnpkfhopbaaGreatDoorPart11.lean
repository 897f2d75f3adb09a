/-
 Which bytes are orders, as the document has it; addresses' bytes.
-/
import Derived.Test.YtjnopnpkfhopbaaGreatDoorPart10
set_option linter.unusedSimpArgs false
set_option linter.unusedVariables false
set_option maxRecDepth 8000
set_option maxHeartbeats 8000000
namespace Go.Proofs.YtjnopnpkfhopbaaGreatDoor
open Go Go.AL
def kinds:List Nat:=[0,5,8,17,18,19,29,40,41,44,60]
def kindsA:List AV:=kinds.map fun (k:Nat)=> .lit (.int .i64 (k:Int))
def namesA:List AV:=kinds.map fun (k:Nat)=> .lit (.string (nameB k))
theorem name16_calls (k:Nat) (σ:Store):ACalls Tryz.prog 76 [.lit (.int .i64 k)] σ fun v σ'=>v= .lit (.string (nameB k))∧σ'=σ:=by
 refine aw st76 pl76 22 Tryz.func76 rfl ?_
 simp
 refine codeK.loop follows (st:=st76) (plans:=pl76) (X:=Nat) (fun i=>i≤11∧∀j,j<i→(kinds.getD j 0)≠k)
  (fun i=>[(0, .lit (.int .i64 k)),(3, .list false 1 namesA),(7, .list false 1 kindsA),(8, .lit (.int .i64 11)),(9, .lit (.int .i64 i))]) (fun _=>σ) (fun i=>11-i) 0 (by kernel_rfl) (by simp) (by simp[namesA,kindsA,kinds,nameB]) (by simp) fun i hi=> ?_
 obtain ⟨hi,hk⟩:=hi
 by_cases hlt:i<11
 ·have hw:IntKind.i64.wrap ((i:Int)+1)=((i+1:Nat):Int):=wrap_i64 (by omega) (by omega)
  have g1:kindsA[i]?=some (.lit (.int .i64 ((kinds.getD i 0:Nat):Int))):=by
   simp[kindsA,List.getElem?_map,List.getElem?_eq_getElem (show i<kinds.length from hlt)]
  have g2:namesA[i]?=some (.lit (.string (nameB (kinds.getD i 0)))):=by
   simp[namesA,List.getElem?_map,List.getElem?_eq_getElem (show i<kinds.length from hlt)]
  have l1:kindsA.length=11:=rfl
  have l2:namesA.length=11:=rfl
  obtain ⟨q,hq⟩:∃q,kinds.getD i 0=q:=⟨_,rfl⟩
  rw[hq] at g1 g2
  replace g1:=(List.getElem_eq_iff (show i<kindsA.length from hlt)).2 g1
  replace g2:=(List.getElem_eq_iff (show i<namesA.length from hlt)).2 g2
  have hlt':(i:Int)<11:=by omega
  by_cases he:q=k
  ·subst he
   simp[hlt,hlt',g1,g2,l1,l2]
  ·have he':¬(q:Int)=(k:Int):=by omega
   simp[hlt,hlt',g1,l1,he']
   refine ⟨i+1,⟨by omega, ?_⟩,by omega, ?_⟩
   ·intro j hj
    by_cases hji:j=i
    ·subst hji;rw[←List.getD_eq_getElem?_getD,hq];exact he
    ·rw[←List.getD_eq_getElem?_getD];exact hk j (by omega)
   ·rw[hw];exact AV.le_refl _
 ·obtain rfl:i=11:=by omega
  have e0:=hk 0 (by omega)
  have e1:=hk 1 (by omega)
  have e2:=hk 2 (by omega)
  have e3:=hk 3 (by omega)
  have e4:=hk 4 (by omega)
  have e5:=hk 5 (by omega)
  have e6:=hk 6 (by omega)
  have e7:=hk 7 (by omega)
  have e8:=hk 8 (by omega)
  have e9:=hk 9 (by omega)
  have e10:=hk 10 (by omega)
  simp[kinds] at e0 e1 e2 e3 e4 e5 e6 e7 e8 e9 e10
  have:nameB k=⟨#[]⟩:=by
   simp[nameB,Ne.symm e0,Ne.symm e1,Ne.symm e2,Ne.symm e3,Ne.symm e4,Ne.symm e5,Ne.symm e6,Ne.symm e7,Ne.symm e8,Ne.symm e9,Ne.symm e10]
  simp[this]
theorem is16_calls (b:UInt8) (σ:Store):ACalls Tryz.prog 41 [byteA b] σ fun v σ'=>v= .lit (.bool (isOrd b))∧σ'=σ:=by
 refine aw st41 pl41 11 Tryz.func41 rfl ?_
 by_cases h0:b.toNat=0
 ·have:isOrd b=false:=by simp[isOrd,h0]
  simp[byteA,h0,this]
 ·have h1:=ord_name b h0
  simp[byteA,h0,wrapB]
  refine callK.of (name16_calls b.toNat σ) ?_
  rintro v σ' ⟨rfl,rfl⟩
  simp[h0,h1]
def encM (n:Nat):List UInt8:=[six (n/64),six n]
theorem six_mod (n:Nat):six (n % 64)=six n:=by simp[six]
def okAddr (n:Int):Prop:=0≤n∧n<4096
instance (n:Int):Decidable (okAddr n):=inferInstanceAs (Decidable (_∧_))
def encR (n:Int):List AV:=if okAddr n then [.list true 1 (bytesA (encM n.toNat)), .lit (.int .i64 0)] else [.list true 1 [], .lit (.int .i64 9)]
theorem enc4_calls (n:Int) (σ:Store):ACalls Tryz.prog 36 [.lit (.int .i64 12), .lit (.int .i64 n)] σ fun v σ'=>v= .tuple (encR n)∧σ'=σ:=by
 refine aw st36 pl36 37 Tryz.func36 rfl ?_
 by_cases h:okAddr n
 ·obtain ⟨m,rfl⟩:∃m:Nat,n=m:=⟨n.toNat,by have:=h.1;omega⟩
  have hm:m<4096:=by have:=h.2;omega
  have h1:¬((4095:Int)<(m:Int)):=by omega
  have h5:((m:Int)<0)=False:=by simp
  have he:encM m=[six (m/64),six (m % 64)]:=by rw[encM,six_mod]
  obtain ⟨q,hq⟩:∃q,m/64=q:=⟨_,rfl⟩
  obtain ⟨r,hr⟩:∃r,m % 64=r:=⟨_,rfl⟩
  have h2:(m:Int).tdiv 64=(q:Int):=by rw[←hq];rfl
  have h3:(m:Int).tmod 64=(r:Int):=by rw[←hr];rfl
  have h4:IntKind.i64.wrap (q:Int)=(q:Int):=wrap_i64 (by omega) (by omega)
  rw[hq,hr] at he
  have s1:=six4_calls q (by omega)
  have s2:=six4_calls r (by omega)
  clear hq hr
  simp[encR,h,h1,h2,h4,h5,he]
  refine callK.of (s1 σ) ?_
  rintro v σ' ⟨rfl,rfl⟩
  simp[byteA,h3]
  refine callK.of (s2 _) ?_
  rintro v σ' ⟨rfl,rfl⟩
  simp[byteA,bytesA]
 ·have h':n<0∨4095<n:=by unfold okAddr at h;omega
  by_cases h0:n<0
  ·simp[encR,h,h0]
  ·have h1:4095<n:=by omega
   simp[encR,h,h0,h1]
theorem enc_calls_ok (m q:Nat) (h2:(m:Int).fdiv (2^min 6 IntKind.i64.bits)=(q:Int)) (hm:m<4096) (hq:q<4096) (h6:IntKind.i64.wrap (2^min 12 IntKind.i64.bits)=4096) (σ:Store):
  ACalls Tryz.prog 33 [.lit (.int .i64 12), .lit (.int .i64 m)] σ fun v σ'=>v= .tuple [.list true 1 (bytesA [six q,six m]), .lit (.int .i64 0)]∧σ'=σ:=by
 refine aw st33 pl33 41 Tryz.func33 rfl ?_
 have h1:¬((4096:Int)≤(m:Int)):=by omega
 have h5:((m:Int)<0)=False:=by simp
 have s1:=six_calls q hq
 have s2:=six_calls m hm
 generalize six q=x at*
 generalize six m=y at*
 simp[h1,h5,h6,h2]
 refine callK.of (s1 σ) ?_
 rintro v σ' ⟨rfl,rfl⟩
 simp[byteA]
 refine callK.of (s2 _) ?_
 rintro v σ' ⟨rfl,rfl⟩
 simp[byteA,bytesA]
theorem enc_calls_bad (n:Int) (h:¬okAddr n) (h6:IntKind.i64.wrap (2^min 12 IntKind.i64.bits)=4096) (σ:Store):ACalls Tryz.prog 33 [.lit (.int .i64 12), .lit (.int .i64 n)] σ fun v σ'=>v= .tuple [.list true 1 [], .lit (.int .i64 9)]∧σ'=σ:=by
 refine aw st33 pl33 41 Tryz.func33 rfl ?_
 have h':n<0∨4096≤n:=by unfold okAddr at h;omega
 by_cases h0:n<0
 ·simp[h0]
 ·have h1:4096≤n:=by omega
  simp[h0,h1,h6]
theorem enc_calls (n:Int) (σ:Store):ACalls Tryz.prog 33 [.lit (.int .i64 12), .lit (.int .i64 n)] σ fun v σ'=>v= .tuple (encR n)∧σ'=σ:=by
 have h6:IntKind.i64.wrap (2^min 12 IntKind.i64.bits)=4096:=by decide+kernel
 by_cases h:okAddr n
 ·have h':=h
  rw[encR,if_pos h]
  obtain ⟨h1,h2⟩:=h
  obtain ⟨m,rfl⟩:∃m:Nat,n=m:=⟨n.toNat,by omega⟩
  exact enc_calls_ok m (m/64) (fdiv64 m) (by omega) (by omega) h6 σ
 ·rw[encR,if_neg h]
  exact enc_calls_bad n h h6 σ
def unsix (b:UInt8):Nat:=((List.range 64).find? fun n=>sixR n==b).getD (b.toNat % 64)
theorem unsix_lt (b:UInt8):unsix b<64:=by
 unfold unsix
 cases h:(List.range 64).find? fun n=>sixR n==b with
 |none=>simp;omega
 |some i=>rw[List.find?_range_eq_some] at h;simp;have:=h.2.1;simp at this;omega
theorem unsix_six:∀r:Fin 64,unsix (sixR r.val)=r.val:=by decide+kernel
theorem six_top:∀r:Fin 64,(sixR r.val).toNat/64=1∨(sixR r.val).toNat/64=3:=by decide+kernel
theorem unsix_found {b:UInt8} {i:Nat} (hi:i<64) (h:sixR i=b) (hj:∀j,j<i→sixR j≠b):unsix b=i:=by
 have:((List.range 64).find? fun n=>sixR n==b)=some i:=by
  rw[List.find?_range_eq_some]
  exact ⟨by simp[h],by simp[hi],fun j hj'=>by simp[hj j hj']⟩
 rw[unsix,this];rfl
theorem unsix_none {b:UInt8} (hj:∀j,j<64→sixR j≠b):unsix b=b.toNat % 64:=by
 have:((List.range 64).find? fun n=>sixR n==b)=none:=by
  rw[List.find?_eq_none]
  intro n hn
  simp at hn
  simp[hj n hn]
 rw[unsix,this];rfl
theorem six_small {n:Nat} (h:n<64):six n=sixR n:=by rw[six,Nat.mod_eq_of_lt h]
theorem and63b (b:UInt8):pureBin .and (.int .u8 (b.toNat:Int)) (.int .u8 63)=some (.int .u8 ((b.toNat % 64:Nat):Int)):=by
 have h:=and_u8 b 63
 have e:(b&&&63).toNat=b.toNat % 64:=by
  rw[UInt8.toNat_and];exact Nat.and_two_pow_sub_one_eq_mod _ 6
 rw[e] at h;exact h
theorem unsix_calls (b:UInt8) (σ:Store):ACalls Tryz.prog 85 [byteA b] σ fun v σ'=>v= .lit (.int .i64 (unsix b))∧σ'=σ:=by
 refine aw st85 pl85 16 Tryz.func85 rfl ?_
 simp
 refine codeK.loop follows (st:=st85) (plans:=pl85) (X:=Nat) (fun i=>i≤64∧∀j,j<i→sixR j≠b)
  (fun i=>[(0,byteA b),(4, .lit (.int .i64 i))]) (fun _=>σ) (fun i=>64-i) 0 (by kernel_rfl) (by simp) (by simp) (by simp) fun i hi=> ?_
 obtain ⟨hi,hk⟩:=hi
 by_cases hlt:i<64
 ·have hw:IntKind.i64.wrap ((i:Int)+1)=((i+1:Nat):Int):=wrap_i64 (by omega) (by omega)
  have hlt':(i:Int)<64:=by omega
  have hs:=six_calls i (by omega)
  rw[six_small hlt] at hs
  have hf:=fun h=>unsix_found (b:=b) hlt h hk
  have hstep:sixR i≠b→∀j,j<i+1→sixR j≠b:=fun hne j hj=>by
   by_cases hji:j=i
   ·subst hji;exact hne
   ·exact hk j (by omega)
  generalize sixR i=x at*
  by_cases he:x=b
  ·have hf':=hf he
   subst he
   simp[hlt']
   refine callK.of (hs σ) ?_
   rintro v σ' ⟨rfl,rfl⟩
   simp[byteA,hf']
  ·have he':¬(x.toNat:Int)=(b.toNat:Int):=fun h=>he (UInt8.toNat_inj.1 (by omega))
   simp[hlt']
   refine callK.of (hs σ) ?_
   rintro v σ' ⟨rfl,rfl⟩
   simp[byteA,he']
   exact ⟨i+1,⟨by omega,hstep he⟩,by omega,by rw[hw];exact AV.le_refl _⟩
 ·obtain rfl:i=64:=by omega
  have hn:=unsix_none hk
  have ha:=and63b b
  have hw:IntKind.i64.wrap ((unsix b:Nat):Int)=((unsix b:Nat):Int):=wrap_i64 (by omega) (by have:=unsix_lt b;omega)
  rw[←hn] at ha
  simp[-e_pureBin_8,byteA,ha,hw]
def decM (a b:UInt8):Nat×Nat:=if a.toNat/64=0 then (a.toNat*256+b.toNat,0) else if a.toNat/64=2 then (0,9) else (unsix a*64+unsix b,0)
theorem dec_enc {n:Nat} (h:n<4096):decM (six (n/64)) (six n)=(n,0):=by
 have e1:six (n/64)=sixR (n/64):=six_small (by omega)
 have e2:six n=sixR (n % 64):=rfl
 have h1:=six_top ⟨n/64,by omega⟩
 have h2:=unsix_six ⟨n/64,by omega⟩
 have h3:=unsix_six ⟨n % 64,by omega⟩
 simp only at h1 h2 h3
 rw[decM,e1,e2,h2,h3,if_neg (by omega),if_neg (by omega)]
 congr 1;omega
def decR:List UInt8→Nat×Nat
 |a::b::_=>decM a b
 |_=>(0,2)
theorem shl8 (a:UInt8):pureBin .shl (.int .i64 (a.toNat:Int)) (.int .u64 8)=some (.int .i64 ((2^8*a.toNat:Nat):Int)):=by
 have:=a.toNat_lt
 have h:IntKind.i64.wrap ((a.toNat:Int)*2^min ((8:Int).toNat) IntKind.i64.bits)=((2^8*a.toNat:Nat):Int):=by
  have:(2:Int)^min ((8:Int).toNat) IntKind.i64.bits=256:=by decide+kernel
  rw[this,wrap_i64 (by omega) (by omega)];omega
 unfold pureBin
 simp only[show ¬((8:Int)<0) by omega,if_false]
 rw[h]
theorem shl6 (m:Nat) (hm:m<64):pureBin .shl (.int .i64 (m:Int)) (.int .u64 6)=some (.int .i64 ((2^6*m:Nat):Int)):=by
 have h:IntKind.i64.wrap ((m:Int)*2^min ((6:Int).toNat) IntKind.i64.bits)=((2^6*m:Nat):Int):=by
  have:(2:Int)^min ((6:Int).toNat) IntKind.i64.bits=64:=by decide+kernel
  rw[this,wrap_i64 (by omega) (by omega)];omega
 unfold pureBin
 simp only[show ¬((6:Int)<0) by omega,if_false]
 rw[h]
theorem shr6 (a:UInt8):pureBin .shr (.int .u8 (a.toNat:Int)) (.int .u64 6)=some (.int .u8 ((a.toNat/64:Nat):Int)):=by
 have h:(a.toNat:Int).fdiv (2^min ((6:Int).toNat) IntKind.u8.bits)=((a.toNat/64:Nat):Int):=by
  have:(2:Int)^min ((6:Int).toNat) IntKind.u8.bits=((64:Nat):Int):=by decide+kernel
  rw[this];exact (Int.ofNat_fdiv a.toNat 64).symm
 unfold pureBin
 simp only[show ¬((6:Int)<0) by omega,if_false]
 rw[h]
theorem dec_core1 (o:Bool) (a b:UInt8) (L:List AV) (q V N:Nat) (gl0:0<L.length) (gl1:1<L.length) (e0:L[0]=byteA a) (e1:L[1]=byteA b)
  (wa:IntKind.i64.wrap (a.toNat:Int)=(a.toNat:Int)) (wb:IntKind.i64.wrap (b.toNat:Int)=(b.toNat:Int))
  (f1:pureBin .shl (.int .i64 (a.toNat:Int)) (.int .u64 8)=some (.int .i64 (V:Int))) (f2:pureBin .shr (.int .u8 (a.toNat:Int)) (.int .u64 6)=some (.int .u8 (q:Int)))
  (f3:pureBin .or (.int .i64 (V:Int)) (.int .i64 (b.toNat:Int))=some (.int .i64 (N:Int))) (hq:q=0) (σ:Store):
  ACalls Tryz.prog 59 [.lit (.int .i64 12), .list o 1 L] σ fun v σ'=>v= .tuple [.lit (.int .i64 N), .lit (.int .i64 0)]∧σ'=σ:=by
 have gl2:¬((L.length:Int)<2):=by omega
 subst hq
 refine aw st59 pl59 59 Tryz.func59 rfl ?_
 simp[-e_pureBin_1, -e_pureBin_2, -e_pureBin_9,gl2,gl0,gl1,e0,e1,byteA,wa,wb,f1,f2,f3]
theorem dec_core2 (o:Bool) (a b:UInt8) (L:List AV) (q V N:Nat) (gl0:0<L.length) (gl1:1<L.length) (e0:L[0]=byteA a) (e1:L[1]=byteA b)
  (wa:IntKind.i64.wrap (a.toNat:Int)=(a.toNat:Int)) (wb:IntKind.i64.wrap (b.toNat:Int)=(b.toNat:Int))
  (f1:pureBin .shl (.int .i64 (a.toNat:Int)) (.int .u64 8)=some (.int .i64 (V:Int))) (f2:pureBin .shr (.int .u8 (a.toNat:Int)) (.int .u64 6)=some (.int .u8 (q:Int)))
  (f3:pureBin .or (.int .i64 (V:Int)) (.int .i64 (b.toNat:Int))=some (.int .i64 (N:Int))) (hq:q=2) (σ:Store):
  ACalls Tryz.prog 59 [.lit (.int .i64 12), .list o 1 L] σ fun v σ'=>v= .tuple [.lit (.int .i64 0), .lit (.int .i64 9)]∧σ'=σ:=by
 have gl2:¬((L.length:Int)<2):=by omega
 subst hq
 refine aw st59 pl59 59 Tryz.func59 rfl ?_
 simp[-e_pureBin_1, -e_pureBin_2, -e_pureBin_9,gl2,gl0,gl1,e0,e1,byteA,wa,wb,f1,f2,f3]
theorem dec_core3 (o:Bool) (a b:UInt8) (L:List AV) (q V N x y W M:Nat) (gl0:0<L.length) (gl1:1<L.length) (e0:L[0]=byteA a) (e1:L[1]=byteA b)
  (wa:IntKind.i64.wrap (a.toNat:Int)=(a.toNat:Int)) (wb:IntKind.i64.wrap (b.toNat:Int)=(b.toNat:Int))
  (f1:pureBin .shl (.int .i64 (a.toNat:Int)) (.int .u64 8)=some (.int .i64 (V:Int))) (f2:pureBin .shr (.int .u8 (a.toNat:Int)) (.int .u64 6)=some (.int .u8 (q:Int)))
  (f3:pureBin .or (.int .i64 (V:Int)) (.int .i64 (b.toNat:Int))=some (.int .i64 (N:Int))) (h0:¬q=0) (_h2:¬q=2) (h2':¬(q:Int)=2)
  (s1:∀σ,ACalls Tryz.prog 85 [byteA a] σ fun v σ'=>v= .lit (.int .i64 x)∧σ'=σ) (s2:∀σ,ACalls Tryz.prog 85 [byteA b] σ fun v σ'=>v= .lit (.int .i64 y)∧σ'=σ)
  (k1:pureBin .shl (.int .i64 (x:Int)) (.int .u64 6)=some (.int .i64 (W:Int))) (k3:pureBin .or (.int .i64 (W:Int)) (.int .i64 (y:Int))=some (.int .i64 (M:Int))) (σ:Store):
  ACalls Tryz.prog 59 [.lit (.int .i64 12), .list o 1 L] σ fun v σ'=>v= .tuple [.lit (.int .i64 M), .lit (.int .i64 0)]∧σ'=σ:=by
 have gl2:¬((L.length:Int)<2):=by omega
 refine aw st59 pl59 59 Tryz.func59 rfl ?_
 simp[-e_pureBin_1, -e_pureBin_2, -e_pureBin_9,gl2,gl0,gl1,e0,e1,byteA,wa,wb,f1,f2,f3,h0,h2']
 refine ⟨?_, ?_⟩
 ·refine callK.of (s1 _) ?_
  rintro v σ' ⟨rfl,rfl⟩
  simp[-e_pureBin_1, -e_pureBin_2, -e_pureBin_9,k1]
  refine callK.of (s2 _) ?_
  rintro v σ' ⟨rfl,rfl⟩
  simp[-e_pureBin_1, -e_pureBin_2, -e_pureBin_9,k3]
 ·refine callK.of (s1 _) ?_
  rintro v σ' ⟨rfl,rfl⟩
  simp[-e_pureBin_1, -e_pureBin_2, -e_pureBin_9,k1]
  refine callK.of (s2 _) ?_
  rintro v σ' ⟨rfl,rfl⟩
  simp[-e_pureBin_1, -e_pureBin_2, -e_pureBin_9,k3]
theorem dec_calls_two (o:Bool) (a b:UInt8) (l:List UInt8) (σ:Store):ACalls Tryz.prog 59 [.lit (.int .i64 12), .list o 1 (bytesA (a::b::l))] σ fun v σ'=>v= .tuple [.lit (.int .i64 (decM a b).1), .lit (.int .i64 (decM a b).2)]∧σ'=σ:=by
 have g0:(bytesA (a::b::l))[0]?=some (byteA a):=rfl
 have g1:(bytesA (a::b::l))[1]?=some (byteA b):=rfl
 have gl:(bytesA (a::b::l)).length=l.length+2:=by simp
 have gl0:0<(bytesA (a::b::l)).length:=by omega
 have gl1:1<(bytesA (a::b::l)).length:=by omega
 have e0:=(List.getElem_eq_iff gl0).2 g0
 have e1:=(List.getElem_eq_iff gl1).2 g1
 have ha:=a.toNat_lt
 have hb:=b.toNat_lt
 have f3:=or_i64 (2^8*a.toNat) b.toNat (by omega) (by omega)
 rw[←Nat.two_pow_add_eq_or_of_lt (by omega)] at f3
 have hM:2^8*a.toNat+b.toNat=a.toNat*256+b.toNat:=by omega
 rw[hM] at f3
 by_cases h0:a.toNat/64=0
 ·rw[decM,if_pos h0]
  exact dec_core1 o a b _ _ _ _ gl0 gl1 e0 e1 (wrapB a) (wrapB b) (shl8 a) (shr6 a) f3 h0 σ
 ·by_cases h2:a.toNat/64=2
  ·rw[decM,if_neg h0,if_pos h2]
   exact dec_core2 o a b _ _ _ _ gl0 gl1 e0 e1 (wrapB a) (wrapB b) (shl8 a) (shr6 a) f3 h2 σ
  ·rw[decM,if_neg h0,if_neg h2]
   have u1:=unsix_lt a
   have u2:=unsix_lt b
   have k3:=or_i64 (2^6*unsix a) (unsix b) (by omega) (by omega)
   rw[←Nat.two_pow_add_eq_or_of_lt (by omega),show 2^6*unsix a+unsix b=unsix a*64+unsix b by omega] at k3
   exact dec_core3 o a b _ _ _ _ _ _ _ _ gl0 gl1 e0 e1 (wrapB a) (wrapB b) (shl8 a) (shr6 a) f3 h0 h2 (by omega) (unsix_calls a) (unsix_calls b) (shl6 _ u1) k3 σ
structure Op where
 kind:Nat:=0
 addr:Int:=0
 code:UInt8:=0
 graph:Bool:=false
 fa:UInt8:=0
 pairs:List (UInt8×UInt8):=[]
 text:List UInt8:=[]
def pairsA (l:List (UInt8×UInt8)):List AV:=l.map fun p=> .agg [byteA p.1,byteA p.2]
def opC (o:Op):List AV:=[.lit (.int .i64 o.kind), .lit (.int .i64 o.addr),byteA o.code, .lit (.bool o.graph),byteA o.fa, .list false 2 (pairsA o.pairs), .list false 1 (bytesA o.text)]
def opA (o:Op):AV:= .agg (opC o)
def opsA (l:List Op):List AV:=l.map opA
@[simp] theorem opsA_length (l:List Op):(opsA l).length=l.length:=by simp[opsA]
theorem opsA_append (l k:List Op):opsA (l++k)=opsA l++opsA k:=by simp[opsA]
theorem opsA_get (l:List Op) (i:Nat) (h:i<l.length):(opsA l)[i]'(by simpa using h)=opA l[i]:=by simp[opsA]
theorem bytesA_at (l:List UInt8) (i:Nat) (h:i<l.length):(bytesA l)[i]'(by simpa using h)=byteA l[i]:=by simp[bytesA]
def hasOrd (l:List UInt8):Bool:=l.any isOrd
def seqB {α:Type} (f:α→List UInt8×Nat):List α→List UInt8×Nat
 |[]=>([],0)
 |o::l=>if (f o).2≠0 then ([],(f o).2) else if (seqB f l).2≠0 then ([],(seqB f l).2) else ((f o).1++(seqB f l).1,0)
def opB (o:Op):List UInt8×Nat:=
 if o.kind=0 then (if o.text=[]∨hasOrd o.text=true then ([],10) else (o.text,0)) else if okAddr o.addr then (17::encM o.addr.toNat,0) else ([],9)
def good (o:Op):Prop:=(o.kind=0∧o.text.length≤1000000)∨o.kind=17
def sumB (l:List Op) (i:Nat):List UInt8:=(l.take i).flatMap fun o=>(opB o).1
@[simp] theorem byteA_share (b:UInt8):(byteA b).share=byteA b:=nr rfl
@[simp] theorem byteA_drop1 (b:UInt8):(byteA b).drop1=byteA b:=nr rfl
@[simp] theorem byteA_keep1 (b:UInt8):(byteA b).keep1=byteA b:=nr rfl
@[simp] theorem byteA_cells (b:UInt8):(byteA b).cells=[byteA b]:=nr rfl
@[simp] theorem byteA_one (b:UInt8):(byteA b).one=true:=nr rfl
@[simp] theorem byteA_solid (b:UInt8):(byteA b).solid=true:=nr rfl
@[simp] theorem byteA_conv (P:Program) (t:TypeId) (b:UInt8):conv P t (byteA b)=byteA b:=nr rfl
def sbaOp (n:Int):Op:= {kind:=17,addr:=n}
def txtOp (l:List UInt8):Op:= {text:=l}
def opsE (alone:Bool) (e:En):List Op:=(if alone=true then [] else [sbaOp e.addr])++(if e.text=[] then [] else [txtOp e.text])
def entB (alone:Bool) (e:En):List UInt8×Nat:=seqB opB (opsE alone e)
def aloneL:List En→Bool
 |[e]=>decide (e.addr=0)&&decide (0<e.text.length)
 |_=>false
def repB (r:Rp):List UInt8×Nat:=
 if r.short=true then ([r.aid],0) else if okAddr r.cursor then
  (if (seqB (entB (aloneL r.es)) r.es).2≠0 then ([],(seqB (entB (aloneL r.es)) r.es).2) else (r.aid::encM r.cursor.toNat++(seqB (entB (aloneL r.es)) r.es).1,0)) else ([],9)
def sumE (a:Bool) (l:List En) (i:Nat):List UInt8:=(l.take i).flatMap fun e=>(entB a e).1
theorem aloneL_cases (es:List En):(¬es.length=1∧aloneL es=false)∨∃e,es=[e]∧((¬e.addr=0∧aloneL es=false)∨(e.addr=0∧e.text.length=0∧aloneL es=false)∨(e.addr=0∧0<e.text.length∧aloneL es=true)):=by
 rcases es with _|⟨e,_|⟨f,l⟩⟩
 ·exact .inl ⟨by simp,rfl⟩
 ·refine .inr ⟨e,rfl, ?_⟩
  by_cases h1:e.addr=0
  ·by_cases h2:0<e.text.length
   ·exact .inr (.inr ⟨h1,h2,by simp[aloneL,h1,h2]⟩)
   ·exact .inr (.inl ⟨h1,by omega,by simp[aloneL,h2]⟩)
  ·exact .inl ⟨h1,by simp[aloneL,h1]⟩
 ·exact .inl ⟨by simp,rfl⟩
theorem entB_false (e:En):entB false e=if okAddr e.addr then (if hasOrd e.text=true then ([],10) else (17::encM e.addr.toNat++e.text,0)) else ([],9):=by
 have h17:opB (sbaOp e.addr)=if okAddr e.addr then (17::encM e.addr.toNat,0) else ([],9):=rfl
 have ht:opB (txtOp e.text)=if e.text=[]∨hasOrd e.text=true then ([],10) else (e.text,0):=rfl
 have hn:hasOrd []=false:=rfl
 by_cases h1:okAddr e.addr
 ·rw[if_pos h1] at h17⊢
  by_cases h2:e.text=[]
  ·simp[entB,opsE,h2,seqB,h17,hn]
  ·by_cases h3:hasOrd e.text=true
   ·rw[if_pos (.inr h3)] at ht
    simp[entB,opsE,h2,seqB,h17,ht,h3]
   ·rw[if_neg (by simp[h2,h3])] at ht
    simp[entB,opsE,h2,seqB,h17,ht,h3]
 ·rw[if_neg h1] at h17⊢
  simp[entB,opsE,seqB,h17]
theorem entB_true (e:En) (h:0<e.text.length):entB true e=if hasOrd e.text=true then ([],10) else (e.text,0):=by
 have h2:e.text≠[]:=List.length_pos_iff.1 h
 have ht:opB (txtOp e.text)=if e.text=[]∨hasOrd e.text=true then ([],10) else (e.text,0):=rfl
 by_cases h3:hasOrd e.text=true
 ·rw[if_pos (.inr h3)] at ht
  simp[entB,opsE,h2,seqB,ht,h3]
 ·rw[if_neg (by simp[h2,h3])] at ht
  simp[entB,opsE,h2,seqB,ht,h3]
abbrev ptrA (o:Nat):AV:= .lit (.pointer (some ⟨o,0,none⟩))
def scA (o:Bool) (l:List UInt8) (e:Nat):List AV:=[.list o 1 (bytesA l), .lit (.int .i64 e)]
def failE (e c:Nat):Nat:=if e=0 then c else e
theorem fail_calls (b:Nat) (o:Bool) (l:List UInt8) (e c:Nat) (σ:Store) (hb:σ b=some (scA o l e)):
  ACalls Tryz.prog 107 [ptrA b, .lit (.int .i64 c)] σ fun v σ'=>v= .tuple []∧σ'=σ.upd b (scA o l (failE e c)):=by
 refine aw st107 pl107 13 Tryz.func107 rfl ?_
 unfold scA at hb
 by_cases h:e=0
 ·subst h
  simp[hb]
  exact sub_eq (by simp[scA,failE])
 ·have h':¬(e:Int)=0:=by omega
  simp[hb,h]
  rw[failE,if_neg h]
  rw[upd_back (by rw[hb];rfl)];exact Store.sub_refl _
theorem take_ok (b:Nat) (o:Bool) (l:List UInt8) (e n:Nat) (σ:Store) (hb:σ b=some (scA o l e)) (hn:n≤l.length) (_hl:l.length≤2000000000):
  ACalls Tryz.prog 87 [ptrA b, .lit (.int .i64 n)] σ fun v σ'=>v= .list false 1 (bytesA (l.take n))∧σ'=σ.upd b (scA false (l.drop n) e):=by
 refine aw st87 pl87 37 Tryz.func87 rfl ?_
 unfold scA at hb
 have h:¬(l.length:Int)<(n:Int):=by omega
 simp[hb,h,hn,bytesA_take,bytesA_drop]
 exact sub_eq rfl
theorem take_short1 (b:Nat) (o:Bool) (e:Nat) (σ:Store) (hb:σ b=some (scA o [] e)):
  ACalls Tryz.prog 87 [ptrA b, .lit (.int .i64 1)] σ fun v σ'=>v= .list false 1 (bytesA [0])∧σ'=σ.upd b (scA true [] (failE e 2)):=by
 have hf:=fail_calls b o [] e 2 σ hb
 refine aw st87 pl87 37 Tryz.func87 rfl ?_
 unfold scA at hb
 simp[hb,bytesA_nil]
 refine callK.of hf ?_
 rintro v σ' ⟨rfl,rfl⟩
 simp[scA,bytesA,byteA]
theorem take_short2 (b:Nat) (o:Bool) (l:List UInt8) (e:Nat) (σ:Store) (hb:σ b=some (scA o l e)) (hl:l.length<2):
  ACalls Tryz.prog 87 [ptrA b, .lit (.int .i64 2)] σ fun v σ'=>v= .list false 1 (bytesA [0,0])∧σ'=σ.upd b (scA true [] (failE e 2)):=by
 have hf:=fail_calls b o l e 2 σ hb
 have h:(l.length:Int)<2:=by omega
 refine aw st87 pl87 37 Tryz.func87 rfl ?_
 unfold scA at hb
 simp[hb,h]
 refine callK.of hf ?_
 rintro v σ' ⟨rfl,rfl⟩
 simp[scA,bytesA,byteA]
def okP (T X:Nat):Prop:=(T=0∧X=0)∨T=192∨(T=65∧(X=0∨X=240∨X=241∨X=242∨X=244∨X=248))∨(T=66∧(X=0∨(241≤X∧X≤247)))∨(T=67∧(X=0∨X=241))
instance (T X:Nat):Decidable (okP T X):=by unfold okP;infer_instance
def chkE (t x:UInt8):Nat:=if okP t.toNat x.toNat then 0 else 10
theorem check_calls (t x:UInt8) (σ:Store):ACalls Tryz.prog 82 [.agg [byteA t,byteA x]] σ fun v σ'=>v= .lit (.int .i64 (chkE t x))∧σ'=σ:=by
 refine aw st82 pl82 61 Tryz.func82 rfl ?_
 by_cases h1:t.toNat=0
 ·simp[byteA,h1]
  (intro p hp;(repeat' split)<;>first|(rw[chkE,if_pos (by unfold okP;omega)];exact ⟨AV.le_refl _,sub_upd_self _ _ _ hp⟩)|(rw[chkE,if_neg (by unfold okP;omega)];exact ⟨AV.le_refl _,sub_upd_self _ _ _ hp⟩))
 by_cases h2:(t.toNat:Int)=192
 ·simp[byteA,h2]
  (intro p hp;first|(rw[chkE,if_pos (by unfold okP;omega)];exact ⟨AV.le_refl _,sub_upd_self _ _ _ hp⟩)|(rw[chkE,if_neg (by unfold okP;omega)];exact ⟨AV.le_refl _,sub_upd_self _ _ _ hp⟩))
 by_cases h3:(t.toNat:Int)=65
 ·have _:=h3
  by_cases x0:x.toNat=0
  ·simp[byteA,h3,x0]
   (intro p hp;first|(rw[chkE,if_pos (by unfold okP;omega)];exact ⟨AV.le_refl _,sub_upd_self _ _ _ hp⟩)|(rw[chkE,if_neg (by unfold okP;omega)];exact ⟨AV.le_refl _,sub_upd_self _ _ _ hp⟩))
  by_cases x1:(x.toNat:Int)=240
  ·simp[byteA,h3,x1]
   (intro p hp;first|(rw[chkE,if_pos (by unfold okP;omega)];exact ⟨AV.le_refl _,sub_upd_self _ _ _ hp⟩)|(rw[chkE,if_neg (by unfold okP;omega)];exact ⟨AV.le_refl _,sub_upd_self _ _ _ hp⟩))
  by_cases x2:(x.toNat:Int)=241
  ·simp[byteA,h3,x2]
   (intro p hp;first|(rw[chkE,if_pos (by unfold okP;omega)];exact ⟨AV.le_refl _,sub_upd_self _ _ _ hp⟩)|(rw[chkE,if_neg (by unfold okP;omega)];exact ⟨AV.le_refl _,sub_upd_self _ _ _ hp⟩))
  by_cases x3:(x.toNat:Int)=242
  ·simp[byteA,h3,x3]
   (intro p hp;first|(rw[chkE,if_pos (by unfold okP;omega)];exact ⟨AV.le_refl _,sub_upd_self _ _ _ hp⟩)|(rw[chkE,if_neg (by unfold okP;omega)];exact ⟨AV.le_refl _,sub_upd_self _ _ _ hp⟩))
  by_cases x4:(x.toNat:Int)=244
  ·simp[byteA,h3,x4]
   (intro p hp;first|(rw[chkE,if_pos (by unfold okP;omega)];exact ⟨AV.le_refl _,sub_upd_self _ _ _ hp⟩)|(rw[chkE,if_neg (by unfold okP;omega)];exact ⟨AV.le_refl _,sub_upd_self _ _ _ hp⟩))
  by_cases x5:(x.toNat:Int)=248
  ·simp[byteA,h3,x5]
   (intro p hp;first|(rw[chkE,if_pos (by unfold okP;omega)];exact ⟨AV.le_refl _,sub_upd_self _ _ _ hp⟩)|(rw[chkE,if_neg (by unfold okP;omega)];exact ⟨AV.le_refl _,sub_upd_self _ _ _ hp⟩))
  simp[byteA,h3,x0,x1,x2,x3,x4,x5]
  (intro p hp;first|(rw[chkE,if_pos (by unfold okP;omega)];exact ⟨AV.le_refl _,sub_upd_self _ _ _ hp⟩)|(rw[chkE,if_neg (by unfold okP;omega)];exact ⟨AV.le_refl _,sub_upd_self _ _ _ hp⟩))
 by_cases h4:(t.toNat:Int)=66
 ·have _:=h4
  by_cases x0:x.toNat=0
  ·simp[byteA,h4,x0]
   (intro p hp;first|(rw[chkE,if_pos (by unfold okP;omega)];exact ⟨AV.le_refl _,sub_upd_self _ _ _ hp⟩)|(rw[chkE,if_neg (by unfold okP;omega)];exact ⟨AV.le_refl _,sub_upd_self _ _ _ hp⟩))
  by_cases x1:(x.toNat:Int)<241
  ·have y1:¬(241:Int)≤x.toNat:=by omega
   simp[byteA,h4,x0,y1]
   (intro p hp;first|(rw[chkE,if_pos (by unfold okP;omega)];exact ⟨AV.le_refl _,sub_upd_self _ _ _ hp⟩)|(rw[chkE,if_neg (by unfold okP;omega)];exact ⟨AV.le_refl _,sub_upd_self _ _ _ hp⟩))
  by_cases x2:247<(x.toNat:Int)
  ·have y1:(241:Int)≤x.toNat:=by omega
   have y2:¬(x.toNat:Int)≤247:=by omega
   simp[byteA,h4,x0,y1,y2]
   (intro p hp;first|(rw[chkE,if_pos (by unfold okP;omega)];exact ⟨AV.le_refl _,sub_upd_self _ _ _ hp⟩)|(rw[chkE,if_neg (by unfold okP;omega)];exact ⟨AV.le_refl _,sub_upd_self _ _ _ hp⟩))
  have y1:(241:Int)≤x.toNat:=by omega
  have y2:(x.toNat:Int)≤247:=by omega
  simp[byteA,h4,x0,y1,y2]
  (intro p hp;first|(rw[chkE,if_pos (by unfold okP;omega)];exact ⟨AV.le_refl _,sub_upd_self _ _ _ hp⟩)|(rw[chkE,if_neg (by unfold okP;omega)];exact ⟨AV.le_refl _,sub_upd_self _ _ _ hp⟩))
 by_cases h5:(t.toNat:Int)=67
 ·have _:=h5
  by_cases x0:x.toNat=0
  ·simp[byteA,h5,x0]
   (intro p hp;first|(rw[chkE,if_pos (by unfold okP;omega)];exact ⟨AV.le_refl _,sub_upd_self _ _ _ hp⟩)|(rw[chkE,if_neg (by unfold okP;omega)];exact ⟨AV.le_refl _,sub_upd_self _ _ _ hp⟩))
  by_cases x1:(x.toNat:Int)=241
  ·simp[byteA,h5,x1]
   (intro p hp;first|(rw[chkE,if_pos (by unfold okP;omega)];exact ⟨AV.le_refl _,sub_upd_self _ _ _ hp⟩)|(rw[chkE,if_neg (by unfold okP;omega)];exact ⟨AV.le_refl _,sub_upd_self _ _ _ hp⟩))
  simp[byteA,h5,x0,x1]
  (intro p hp;first|(rw[chkE,if_pos (by unfold okP;omega)];exact ⟨AV.le_refl _,sub_upd_self _ _ _ hp⟩)|(rw[chkE,if_neg (by unfold okP;omega)];exact ⟨AV.le_refl _,sub_upd_self _ _ _ hp⟩))
 simp[byteA,h1,h2,h3,h4,h5]
 (intro p hp;first|(rw[chkE,if_pos (by unfold okP;omega)];exact ⟨AV.le_refl _,sub_upd_self _ _ _ hp⟩)|(rw[chkE,if_neg (by unfold okP;omega)];exact ⟨AV.le_refl _,sub_upd_self _ _ _ hp⟩))
end Go.Proofs.YtjnopnpkfhopbaaGreatDoor
