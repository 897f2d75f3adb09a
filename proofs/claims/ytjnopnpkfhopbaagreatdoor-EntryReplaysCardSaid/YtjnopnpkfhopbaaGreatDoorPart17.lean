/-
 The pen: extended attributes.
-/
import Derived.Test.YtjnopnpkfhopbaaGreatDoorPart16
set_option linter.unusedSimpArgs false
set_option linter.unusedVariables false
set_option maxRecDepth 8000
set_option maxHeartbeats 8000000
namespace Go.Proofs.YtjnopnpkfhopbaaGreatDoor
open Go Go.AL Go.Sp
def appE (c:Cell) (l:List (UInt8×UInt8)):Nat:=match appliedS c l with|some _=>0|none=>10
def appC (c:Cell) (l:List (UInt8×UInt8)):Cell:=(appliedS c l).getD .zero
theorem cellC_eq (c:Cell):cellC c=[byteA c.char, .lit (.bool c.attr),byteA c.fa,byteA c.high,byteA c.color,byteA c.set]:=rfl
theorem pairsA_at (l:List (UInt8×UInt8)) (i:Nat) (h:i<l.length):(pairsA l)[i]'(by simpa[pairsA] using h)= .agg [byteA l[i].1,byteA l[i].2]:=by simp[pairsA]
theorem pairsA_length (l:List (UInt8×UInt8)):(pairsA l).length=l.length:=by simp[pairsA]
theorem applied_calls (o:Bool) (c:Cell) (l:List (UInt8×UInt8)) (hl:l.length≤1000000000) (σ:Store):ACalls Tryz.prog 117 [cellA c, .list o 2 (pairsA l)] σ fun v σ'=>v= .tuple [cellA (appC c l), .lit (.int .i64 (appE c l:Nat))]∧σ'=σ:=by
 rw[cellA_eq c]
 refine aw st117 pl117 27 Tryz.func117 rfl ?_
 simp+contextual [ite_free,pairsA_length]
 intro b2 hb2 b4 n1 n2 hb4
 refine codeK.loop follows (st:=st117) (plans:=pl117) (X:=Nat×Cell) (fun x=>x.1≤l.length∧appliedS x.2 (l.drop x.1)=appliedS c l)
  (fun x=>[(2,ptrA b2),(4,ptrA b4),(9, .list false 2 (pairsA l)),(10, .lit (.int .i64 l.length)),(11, .lit (.int .i64 x.1))])
  (fun x=>(σ.upd b2 (cellC x.2)).upd b4 [.lit (.int .u8 0), .lit (.bool false), .lit (.int .u8 0), .lit (.int .u8 0), .lit (.int .u8 0), .lit (.int .u8 0)]) (fun x=>l.length-x.1) (0,c) (by kernel_rfl) (by simp) (by simp) (by rw[cellC_eq];exact Store.sub_refl _) fun x hx=> ?_
 obtain ⟨i,d⟩:=x
 obtain ⟨hi,hk⟩:=hx
 dsimp only at hi hk⊢
 by_cases hlt:i<l.length
 ·have hw:IntKind.i64.wrap ((i:Int)+1)=((i+1:Nat):Int):=wrap_i64 (by omega) (by omega)
  have hg:=pairsA_at l i hlt
  have hpl:=pairsA_length l
  rw[List.drop_eq_getElem_cons hlt] at hk
  generalize l[i]=y at*
  have hap:=fun τ=>apply_calls d y.1 y.2 τ
  have h01:=chkE_01 y.1 y.2
  simp only[appliedS] at hk
  rw[cellA_eq d] at hap
  by_cases h0:chkE y.1 y.2=0
  ·rw[if_pos h0] at hk hap
   rw[h0] at hap
   generalize applyP d y.1 y.2=e at*
   rw[cellA_eq] at hap
   rw[cellC_eq d]
   simp+contextual [hlt,hpl,hg,n2,ite_free]
   intro b7 n3 n4 n5 n6 hb7
   refine callK.of (hap _) ?_
   rintro v σ' ⟨rfl,rfl⟩
   simp[n2,n6]
   refine ⟨i+1,e,⟨by omega,hk⟩,by omega,by rw[hw];exact AV.le_refl _, ?_⟩
   rw[cellC_eq e]
   (intro q;simp only[Store.upd,Store.del];(repeat' split)<;>first|exact Or.inr rfl|exact Or.inl rfl|(exfalso;omega)|(left;subst_vars;assumption)|simp_all)
  ·have h10:chkE y.1 y.2=10:=by omega
   rw[if_neg h0] at hk hap
   rw[h10] at hap
   have hz:cellA .zero= .agg [.lit (.int .u8 0), .lit (.bool false), .lit (.int .u8 0), .lit (.int .u8 0), .lit (.int .u8 0), .lit (.int .u8 0)]:=rfl
   have e1:cellA (appC c l)= .agg [.lit (.int .u8 0), .lit (.bool false), .lit (.int .u8 0), .lit (.int .u8 0), .lit (.int .u8 0), .lit (.int .u8 0)]:=by unfold appC;rw[←hk];rfl
   have e2:appE c l=10:=by unfold appE;rw[←hk]
   rw[hz] at hap
   rw[cellC_eq d,e1,e2]
   simp+contextual [hlt,hpl,hg,n2,ite_free]
   intro b7 n3 n4 n5 n6 hb7
   refine callK.of (hap _) ?_
   rintro v σ' ⟨rfl,rfl⟩
   simp[n1,n2,n4,n6]
   (intro q;simp only[Store.upd,Store.del];(repeat' split)<;>first|exact Or.inr rfl|exact Or.inl rfl|(exfalso;omega)|(left;subst_vars;assumption)|simp_all)
 ·obtain rfl:i=l.length:=by omega
  rw[List.drop_length] at hk
  simp only[appliedS] at hk
  have e1:appC c l=d:=by unfold appC;rw[←hk];rfl
  have e2:appE c l=0:=by unfold appE;rw[←hk]
  rw[e1,e2,cellA_eq d,cellC_eq d]
  simp[n2]
  (intro q;simp only[Store.upd,Store.del];(repeat' split)<;>first|exact Or.inr rfl|exact Or.inl rfl|(exfalso;omega)|(left;subst_vars;assumption)|simp_all)
theorem attribute_eq (p:Pen) (c:Cell) (l:List (UInt8×UInt8)):p.attribute c l=if appE c l=0 then (p.step (p.s.set p.n (appC c l)),0) else (p,10):=by
 unfold Pen.attribute appE appC
 cases appliedS c l<;>simp
theorem appE_01 (c:Cell) (l:List (UInt8×UInt8)):appE c l=0∨appE c l=10:=by unfold appE;split<;>simp
theorem attribute_calls {σ:Store} {z q r:Nat} {p:Pen} (h:Pn σ z q r p) (hl:p.n<4000) (o:Bool) (c:Cell) (l:List (UInt8×UInt8)) (hll:l.length≤1000000000):
  ACalls Tryz.prog 116 [ptrA z,cellA c, .list o 2 (pairsA l)] σ fun v σ'=>v= .lit (.int .i64 ((p.attribute c l).2:Nat))∧σ'=pn σ z q r (p.attribute c l).1:=by
 have hp:=h.pen
 have hap:=fun τ=>applied_calls false c l hll τ
 have h01:=appE_01 c l
 rw[attribute_eq]
 have hs:=fun τ (hτ:Prg τ q r p.s)=>set_calls hτ (p.n:Int) (appC c l)
 generalize appC c l=d at*
 generalize appE c l=e at*
 rw[cellA_eq c,cellA_eq d] at hap
 have hzb:=h.ne
 by_cases h0:e=0
 ·subst h0
  rw[if_pos rfl]
  have hst:p.step (p.s.set p.n d)= {p with s:=p.s.set p.n d,n:=(p.n+1) % (p.s.set p.n d).n} :=rfl
  rw[hst]
  have hn:=fun τ (hτ:Pn τ z q r p)=>next_calls (p:= {p with s:=p.s.set p.n d}) (pn_scr hτ (p.s.set p.n d)▸hτ.to {p with s:=p.s.set p.n d} (hτ.scr.good.set _ _)) hl
  have hs2:=fun τ (hτ:Pn τ z q r p)=>pn_step hτ (p.s.set p.n d)
  rw[cellA_eq d] at hs
  unfold penO at hp
  rw[cellA_eq c]
  refine aw st116 pl116 29 Tryz.func116 rfl ?_
  simp+contextual
  intro b hb
  have hb0:=h.fresh hb
  refine callK.of (hap _) ?_
  rintro v σ' ⟨rfl,rfl⟩
  simp[hp,hb0]
  generalize hX:[byteA d.char,AV.lit (.bool d.attr),byteA d.fa,byteA d.high,byteA d.color,byteA d.set]=X at*
  have hT:=h.new hb X
  refine callK.of (hs _ hT.scr) ?_
  rintro v σ2 ⟨rfl,rfl⟩
  simp
  refine callK.of (hn _ hT) ?_
  rintro v σ2 ⟨rfl,h2⟩
  rw[hs2 _ hT] at h2
  subst h2
  simp
  exact pn_sub (Store.sub_upd hb (Store.sub_refl _)) _ _ _ _
 ·obtain rfl:e=10:=by omega
  rw[if_neg (by omega),h.self]
  unfold penO at hp
  rw[cellA_eq c]
  refine aw st116 pl116 29 Tryz.func116 rfl ?_
  simp+contextual
  intro b hb
  refine callK.of (hap _) ?_
  rintro v σ' ⟨rfl,rfl⟩
  simp
  exact Store.sub_upd hb (Store.sub_refl _)
theorem wrap_sub {N f t:Nat} (hf:f<N) (_ht:t<N):wrap N ((t:Int)-(f:Int))=(t+N-f) % N:=by
 unfold wrap
 have e:((t:Int)-f) % (N:Int)=((t+N-f:Nat):Int) % (N:Int):=by
  rw[show ((t+N-f:Nat):Int)=((t:Int)-f)+N from by omega,Int.add_emod_right]
 rw[e,←Int.natCast_emod];rfl
abbrev sizeA (s:Sp):AV:= .agg [.lit (.int .i64 s.rows), .lit (.int .i64 s.cols)]
theorem spanLen_pos {N f t:Nat} (h:0<N):0<spanLen N f t∧spanLen N f t≤N:=by
 unfold spanLen
 have:=Nat.mod_lt (t+N-f) h
 split<;>omega
theorem length_calls (s:Sp) {f t:Nat} (hf:f<s.n) (ht:t<s.n) (σ:Store):ACalls Tryz.prog 129 [sizeA s, .lit (.int .i64 f), .lit (.int .i64 t)] σ fun v σ'=>v= .lit (.int .i64 (spanLen s.n f t))∧σ'=σ:=by
 have hn:=s.n_le
 have hwt:=fun τ=>swrap_calls s (t:Int) τ
 have hwf:=fun τ=>swrap_calls s (f:Int) τ
 have hws:=fun τ=>swrap_calls s ((t:Int)-f) τ
 have hcl:=fun τ=>scells_calls s τ
 rw[wrap_of_lt ht] at hwt
 rw[wrap_of_lt hf] at hwf
 rw[wrap_sub hf ht] at hws
 have hi:IntKind.i64.wrap ((t:Int)-f)=(t:Int)-f:=wrap_i64 (by omega) (by omega)
 unfold spanLen
 generalize (t+s.n-f) % s.n=d at*
 refine aw st129 pl129 22 Tryz.func129 rfl ?_
 simp
 intro b hb
 repeat' (with_reducible apply And.intro)
 all_goals
  refine callK.of (hwt _) ?_
  rintro v σ' ⟨rfl,rfl⟩
  simp
  repeat' (with_reducible apply And.intro)
 all_goals
  refine callK.of (hwf _) ?_
  rintro v σ' ⟨rfl,rfl⟩
  simp[hi]
  refine callK.of (hws _) ?_
  rintro v σ' ⟨rfl,rfl⟩
  by_cases h0:d=0
  ·simp[h0]
   refine callK.of (hcl _) ?_
   rintro v σ' ⟨rfl,rfl⟩
   simp
   exact sub_upd_self _ _ _ hb
  ·have h1:0<d:=by omega
   simp[h0,h1]
   exact sub_upd_self _ _ _ hb
theorem span_calls2 (s:Sp) (f t:Nat) (σ:Store):ACalls Tryz.prog 126 [sizeA s, .lit (.int .i64 f), .lit (.int .i64 t)] σ fun v σ'=>∃b1 b2 b3,v= .func (.func 128) [] [ptrA b1,ptrA b2,ptrA b3]∧σ b1=none∧σ b2=none∧σ b3=none∧b1≠b2∧b1≠b3∧b2≠b3∧
      σ'=((σ.upd b1 [.lit (.int .i64 s.rows), .lit (.int .i64 s.cols)]).upd b2 [.lit (.int .i64 f)]).upd b3 [.lit (.int .i64 t)]:=by
 refine aw st126 pl126 8 Tryz.func126 rfl ?_
 simp+contextual [ite_free]
 intro b1 h1 b2 n1 n2 h2 b3 n3 n4 n5 n6 h3
 exact ⟨_,AV.le_refl _,_,Store.sub_refl _,b1,b2,b3,rfl,h1,h2,h3,Ne.symm n1,by first|assumption|exact Ne.symm (by assumption),by first|assumption|exact Ne.symm (by assumption),rfl⟩
def NeedB (b1 b2 b3:Nat) (s:Sp) (f t:Nat) (τ:Store):Prop:=τ b1=some [.lit (.int .i64 s.rows), .lit (.int .i64 s.cols)]∧τ b2=some [.lit (.int .i64 f)]∧τ b3=some [.lit (.int .i64 t)]
theorem NeedB.mono {b1 b2 b3:Nat} {s:Sp} {f t:Nat} {τ τ':Store} (h:NeedB b1 b2 b3 s f t τ) (hs:Store.sub τ τ'):NeedB b1 b2 b3 s f t τ':=⟨sub_at h.1 hs,sub_at h.2.1 hs,sub_at h.2.2 hs⟩
theorem span_iter (b1 b2 b3:Nat) (s:Sp) {f t:Nat} (hf:f<s.n) (ht:t<s.n) (σ:Store):IterG Tryz.prog 128 [ptrA b1,ptrA b2,ptrA b3] σ (spanLen s.n f t) (fun _=>NeedB b1 b2 b3 s f t) fun k _=>[.lit (.int .i64 ((f+k) % s.n:Nat))]:=by
 refine ⟨fun k τ τ' h hs=>⟨h.mono hs,rfl⟩,fun X l I J hneed hy τ E h0 hs=> ?_⟩
 obtain ⟨hb1,hb2,hb3⟩:=(hneed 0 τ E (Nat.zero_le _) h0).mono hs
 have hln:=fun τ=>length_calls s hf ht τ
 have hn:=s.n_le
 have hsl:=spanLen_pos (f:=f) (t:=t) s.n_pos
 generalize spanLen s.n f t=N at*
 refine ACallsY.of_awp follows (st:=st128) (plans:=pl128) (n:=24) Tryz.func128 rfl (by kernel_rfl) (by kernel_rfl) (by kernel_rfl) ?_
 simp[hb1,hb2,hb3]
 refine callK.of (hln _) ?_
 rintro v σ' ⟨rfl,rfl⟩
 simp
 refine codeYK.loop follows (st:=st128) (plans:=pl128) (S:=Nat×Store) (fun x=>x.1≤N)
  (fun x=>[(0, .func (.yield l) [] []),(1,ptrA b1),(2,ptrA b2),(3,ptrA b3),(9, .lit (.int .i64 N)),(10, .lit (.int .i64 x.1))]) (fun x=>x.2) (fun x E=>I x.1 x.2 E) (fun x=>N-x.1) (0,τ) (by kernel_rfl) (by simp) (by simp) hs h0 ?_
 rintro ⟨k,τ1⟩ E1 hk hI
 dsimp only at hk hI⊢
 obtain ⟨c1,c2,c3⟩:=hneed k τ1 E1 hk hI
 by_cases hlt:k<N
 ·have hw:IntKind.i64.wrap ((k:Int)+1)=((k+1:Nat):Int):=wrap_i64 (by omega) (by omega)
  have hyk:=hy k hlt τ1 E1 hI
  have hwf:=fun τ=>swrap_calls s (f:Int) τ
  rw[wrap_of_lt hf] at hwf
  have hws:=fun τ=>swrap_calls s ((f+k:Nat):Int) τ
  rw[wrap_mod s.n_pos] at hws
  have hi:IntKind.i64.wrap ((f:Int)+k)=((f+k:Nat):Int):=by rw[wrap_i64 (by omega) (by omega)];omega
  simp[hlt,c1,c2]
  repeat' (with_reducible apply And.intro)
  all_goals
   refine callK.of (hwf _) ?_
   rintro v σ' ⟨rfl,rfl⟩
   simp[hi,c1]
   refine callK.of (hws _) ?_
   rintro v σ' ⟨rfl,rfl⟩
   simp
   refine yieldK.of (by simp) hyk (Store.sub_refl _) ?_
   intro b4 τ' E' hR hap
   cases b4
   ·simp
    exact ⟨⟨_,AV.le_refl _⟩,_,Store.sub_over _ _ _,τ',Store.sub_refl _, .inr (by simpa using hR)⟩
   ·simp
    exact ⟨k+1,by omega,by omega,by rw[hw];exact AV.le_refl _,τ',Store.sub_over _ _ _,by simpa using hR⟩
 ·obtain rfl:k=N:=by omega
  simp
  exact ⟨⟨_,AV.le_refl _⟩,_,Store.sub_refl _,τ1,Store.sub_refl _, .inl hI⟩
theorem attrAt_at {s:Sp} {n:Nat} (hn:n<s.n):(s.at (n:Int)).attr=attrAt s.cells n:=by
 unfold Sp.at attrAt;rw[wrap_of_lt hn]
theorem count_some {s:Sp} (h:0<s.count):∃a,a<s.cells.length∧attrAt s.cells a=true:=by
 unfold Sp.count at h
 rw[List.countP_pos_iff] at h
 obtain ⟨c,hm,hc⟩:=h
 obtain ⟨i,hi,rfl⟩:=List.getElem_of_mem hm
 exact ⟨i,hi,by unfold attrAt;rw[List.getElem?_eq_getElem hi];exact hc⟩
theorem startS_none {s:Sp} (h:s.count=0) (n:Nat):startS s.cells n= -1:=by
 have hno:∀i,attrAt s.cells i=false:=fun i=>by
  cases ha:attrAt s.cells i with
  |false=>rfl
  |true=>
   exfalso
   unfold attrAt at ha
   cases hi:s.cells[i]? with
   |none=>rw[hi] at ha;exact absurd ha (by decide)
   |some c=>
    rw[hi] at ha
    have:0<s.cells.countP (·.attr):=List.countP_pos_iff.2 ⟨c,List.mem_of_getElem? hi,ha⟩
    unfold Sp.count at h;omega
 unfold startS
 rw[lastA_none fun i _=>hno i,lastA_none fun i _=>hno i]
theorem back_start {s:Sp} (h:s.good) {n j:Nat} (hn:n<s.n) (hj:j<s.n) (hfree:∀i,i<j→attrAt s.cells ((n+s.n-i) % s.n)=false) (hat:attrAt s.cells ((n+s.n-j) % s.n)=true):startS s.cells n=((n+s.n-j) % s.n:Nat):=by
 have hl:=h.len
 have hpos:=s.n_pos
 have ha:(n+s.n-j) % s.n<s.cells.length:=by rw[hl];exact Nat.mod_lt _ hpos
 have key:=startS_in hat ha (i:=j) (by omega) (fun k h1 h2=>by
  have:=hfree (j-k) (by omega)
  rw[hl]
  have e:((n+s.n-j) % s.n+k) % s.n=(n+s.n-(j-k)) % s.n:=by
   rw[Nat.mod_add_mod];congr 1;omega
  rw[e];exact this)
 have e2:((n+s.n-j) % s.n+j) % s.cells.length=n:=by
  rw[hl,Nat.mod_add_mod,show n+s.n-j+j=n+s.n from by omega,Nat.add_mod_right,Nat.mod_eq_of_lt hn]
 rw[e2] at key
 exact key
theorem wrap_pred {N m:Nat} (hN:0<N) (hm:m<N):wrap N ((m:Int)-1)=(m+N-1) % N:=by
 unfold wrap
 have e:((m:Int)-1) % (N:Int)=((m+N-1:Nat):Int) % (N:Int):=by
  rw[show ((m+N-1:Nat):Int)=((m:Int)-1)+N from by omega,Int.add_emod_right]
 rw[e,←Int.natCast_emod];rfl
theorem start_calls {q r:Nat} {s:Sp} {σ:Store} (h:Prg σ q r s) {n:Nat} (hn:n<s.n):ACalls Tryz.prog 131 [ptrA q, .lit (.int .i64 n)] σ fun v σ'=>v= .lit (.int .i64 (startS s.cells n))∧σ'=σ:=by
 have hf:=fun τ (hτ:Prg τ q r s)=>formatted_calls hτ
 have hsz:=fun τ (hτ:Prg τ q r s)=>size_calls hτ
 have hnl:=s.n_le
 refine aw st131 pl131 24 Tryz.func131 rfl ?_
 by_cases hc:s.count=0
 ·have hs:=startS_none hc n
  rw[hs]
  simp
  refine callK.of (hf _ h) ?_
  rintro v σ' ⟨rfl,rfl⟩
  simp[hc]
 ·have hc':0<s.count:=by omega
  obtain ⟨a,ha,hat⟩:=count_some hc'
  have hw:=fun τ=>swrap_calls s (n:Int) τ
  rw[wrap_of_lt hn] at hw
  simp
  refine callK.of (hf _ h) ?_
  rintro v σ' ⟨rfl,rfl⟩
  simp[hc']
  refine callK.of (hsz _ h) ?_
  rintro v σ' ⟨rfl,rfl⟩
  simp
  intro b hb
  have hbq:=h.fresh hb
  refine callK.of (hw _) ?_
  rintro v σ2 ⟨rfl,rfl⟩
  simp
  have hbk:= @back_start s h.good n
  have hgood:=h.good
  have hpos:=s.n_pos
  have hstop:∀j,j<s.n→(∀i,i<j→attrAt s.cells ((n+s.n-i) % s.n)=false)→attrAt s.cells ((n+s.n-j) % s.n)=false→j+1<s.n:=fun j hj hfree hthis=>by
   rcases Nat.lt_or_ge (j+1) s.n with h1|h1
   ·exact h1
   ·exfalso
    rw[h.good.len] at ha
    have e:(n+s.n-(n+s.n-a) % s.n) % s.n=a:=by
     rcases Nat.lt_or_ge n a with h2|h2
     ·rw[Nat.mod_eq_of_lt (by omega:n+s.n-a<s.n),show n+s.n-(n+s.n-a)=a from by omega,Nat.mod_eq_of_lt ha]
     ·rw[show n+s.n-a=(n-a)+s.n from by omega,Nat.add_mod_right,Nat.mod_eq_of_lt (by omega:n-a<s.n),show n+s.n-(n-a)=a+s.n from by omega,Nat.add_mod_right,Nat.mod_eq_of_lt ha]
    have hm:=Nat.mod_lt (n+s.n-a) hpos
    rcases Nat.lt_or_ge ((n+s.n-a) % s.n) j with h3|h3
    ·have:=hfree _ h3;rw[e,hat] at this;cases this
    ·have:(n+s.n-a) % s.n=j:=by omega
     rw[this] at e;rw[e,hat] at hthis;cases hthis
  refine codeK.loop follows (st:=st131) (plans:=pl131) (X:=Nat) (fun j=>j<s.n∧∀i,i<j→attrAt s.cells ((n+s.n-i) % s.n)=false)
   (fun j=>[(0,ptrA q),(1, .lit (.int .i64 ((n+s.n-j) % s.n:Nat))),(5,ptrA b)]) (fun _=>σ'.upd b [.lit (.int .i64 s.rows), .lit (.int .i64 s.cols)]) (fun j=>s.n-j) 0 (by kernel_rfl) ⟨hpos,fun i hi=>by omega⟩ (by simp[Nat.mod_eq_of_lt hn]) (by first|exact Store.sub_refl _|(intro q;simp only[Store.upd,Store.del];(repeat' split)<;>first|exact Or.inr rfl|exact Or.inl rfl|(exfalso;omega)|(left;subst_vars;assumption)|simp_all)) fun j hj=> ?_
  obtain ⟨hj,hfree⟩:=hj
  have hbk2:=hbk hn hj hfree
  have hstop2:=hstop j hj hfree
  have hm:=Nat.mod_lt (n+s.n-j) hpos
  have hnext:((n+s.n-j) % s.n+s.n-1) % s.n=(n+s.n-(j+1)) % s.n:=by
   rcases Nat.lt_or_ge (n+s.n-j) s.n with h1|h1
   ·rw[Nat.mod_eq_of_lt h1,show n+s.n-j+s.n-1=(n+s.n-(j+1))+s.n from by omega,Nat.add_mod_right]
   ·rw[show n+s.n-j=(n-j)+s.n from by omega,Nat.add_mod_right,Nat.mod_eq_of_lt (by omega:n-j<s.n),show n+s.n-(j+1)=n-j+s.n-1 from by omega]
  have hfree2:attrAt s.cells ((n+s.n-j) % s.n)=false→∀i,i<j+1→attrAt s.cells ((n+s.n-i) % s.n)=false:=fun h0 i hi=>by
   by_cases e:i=j
   ·subst e;exact h0
   ·exact hfree i (by omega)
  have hnI:(((n+s.n-j) % s.n+s.n-1:Nat):Int) % (s.n:Int)=((n+s.n-(j+1):Nat):Int) % (s.n:Int):=by
   have:=congrArg (fun x:Nat=>(x:Int)) hnext
   simpa using this
  have hat2:=attrAt_at hm
  have hwp:=wrap_pred hpos hm
  generalize (n+s.n-j) % s.n=m at*
  have hsw:=fun τ=>swrap_calls s ((m:Int)-1) τ
  rw[hwp] at hsw
  have hatc:=fun τ (hτ:Prg τ q r s)=>at_calls hτ (m:Int)
  simp only[cellA_eq,hat2] at hatc
  have hi:IntKind.i64.wrap ((m:Int)-1)=(m:Int)-1:=wrap_i64 (by omega) (by omega)
  simp
  refine callK.of (hatc _ (h.new hb _)) ?_
  rintro v σ3 ⟨rfl,rfl⟩
  by_cases h0:attrAt s.cells m=true
  ·rw[hbk2 h0]
   simp[h0]
   (intro q;simp only[Store.upd,Store.del];(repeat' split)<;>first|exact Or.inr rfl|exact Or.inl rfl|(exfalso;omega)|(left;subst_vars;assumption)|simp_all)
  ·have h0':attrAt s.cells m=false:=by simpa using h0
   simp[h0',hi]
   refine callK.of (hsw _) ?_
   rintro v σ3 ⟨rfl,rfl⟩
   simp
   exact ⟨j+1,⟨hstop2 h0',hfree2 h0'⟩,by omega,by rw[hnI];exact AV.le_refl _⟩
theorem startS_at {s:Sp} (h:s.good) {n:Nat} (hn:n<s.n) (hc:¬s.count=0):0≤startS s.cells n∧(startS s.cells n).toNat<s.n:=by
 have key:∀(l:List Cell) (i:Int) (m:Nat),lastA l i m=i∨∃a,a<m∧lastA l i m=(a:Nat)∧attrAt l a=true:=by
  intro l i m
  induction m with
  |zero=>exact .inl rfl
  |succ m ih=>
   have e:lastA l i (m+1)=if attrAt l m=true then (m:Int) else lastA l i m:=rfl
   rw[e]
   split
   ·rename_i ha;exact .inr ⟨m,by omega,rfl,ha⟩
   ·rcases ih with ih|⟨a,h1,h2,h3⟩
    ·exact .inl ih
    ·exact .inr ⟨a,by omega,h2,h3⟩
 obtain ⟨b,hb,hbt⟩:=count_some (by omega:0<s.count)
 have hl:=h.len
 have h2:∃a,a<s.cells.length∧lastA s.cells (-1) s.cells.length=(a:Nat):=by
  rcases key s.cells (-1) s.cells.length with h1|⟨a,h1,h2,_⟩
  ·exfalso
   have:∀m,m≤s.cells.length→b<m→lastA s.cells (-1) m≠ -1:=by
    intro m hm hbm
    induction m with
    |zero=>omega
    |succ m ih=>
     have e:lastA s.cells (-1) (m+1)=if attrAt s.cells m=true then (m:Int) else lastA s.cells (-1) m:=rfl
     rw[e]
     split
     ·omega
     ·rename_i hm'
      exact ih (by omega) (by
       rcases Nat.lt_or_ge b m with h|h
       ·exact h
       ·exfalso;obtain rfl:b=m:=by omega
        exact hm' hbt)
   exact this _ (Nat.le_refl _) hb h1
  ·exact ⟨a,h1,h2⟩
 obtain ⟨a,ha,he⟩:=h2
 unfold startS
 rw[he]
 rcases key s.cells (a:Int) (n+1) with h1|⟨c,h1,h2,_⟩
 ·rw[h1];omega
 ·rw[h2];omega
theorem fof_calls {q r:Nat} {s:Sp} {σ:Store} (h:Prg σ q r s) {n:Nat} (hn:n<s.n):ACalls Tryz.prog 130 [ptrA q, .lit (.int .i64 n)] σ fun v σ'=>v= .tuple [if 0≤startS s.cells n then fldA (fldAt s (startS s.cells n).toNat) else .agg [.lit (.bool false), .lit (.bool false), .lit (.int .i64 0), .lit (.bool false)], .lit (.bool (decide (0≤startS s.cells n)))]∧σ'=σ:=by
 have hst:=fun τ (hτ:Prg τ q r s)=>start_calls hτ hn
 have hfa:∀f:Fld,fldA f= .agg [.lit (.bool f.prot), .lit (.bool f.num), .lit (.int .i64 f.disp), .lit (.bool f.mod)]:=fun _=>rfl
 refine aw st130 pl130 18 Tryz.func130 rfl ?_
 by_cases hc:s.count=0
 ·rw[startS_none hc n] at hst⊢
  simp
  intro b hb
  refine callK.of (hst _ (h.new hb _)) ?_
  rintro v σ' ⟨rfl,rfl⟩
  simp
  exact sub_upd_self _ _ _ hb
 ·obtain ⟨h1,h2⟩:=startS_at h.good hn hc
  obtain ⟨a,ha⟩:∃a:Nat,startS s.cells n=a:=⟨_,(Int.toNat_of_nonneg h1).symm⟩
  rw[ha] at hst h2⊢
  simp only[Int.toNat_natCast] at h2⊢
  rw[if_pos (by omega)]
  have hat:=fun τ (hτ:Prg τ q r s)=>at_calls hτ (a:Int)
  have hae:=at_of h.good h2
  have hfe:fldAt s a=fld (s.at (a:Int)).fa:=by unfold fldAt;rw[hae]
  have hof:=fun τ=>of_calls (s.at (a:Int)).fa τ
  rw[hfe]
  simp only[cellA_eq] at hat
  rw[hfa] at hof⊢
  have ha1:¬(a:Int)= -1:=by omega
  have ha0:(0:Int)≤a:=by omega
  simp
  intro b hb
  refine callK.of (hst _ (h.new hb _)) ?_
  rintro v σ' ⟨rfl,rfl⟩
  simp[ha1]
  refine callK.of (hat _ (h.new hb _)) ?_
  rintro v σ' ⟨rfl,rfl⟩
  simp
  refine callK.of (hof _) ?_
  rintro v σ' ⟨rfl,rfl⟩
  simp
  (intro q;simp only[Store.upd,Store.del];(repeat' split)<;>first|exact Or.inr rfl|exact Or.inl rfl|(exfalso;omega)|(left;subst_vars;assumption)|simp_all)
theorem open_calls {q r:Nat} {s:Sp} {σ:Store} (h:Prg σ q r s) {n:Nat} (hn:n<s.n):ACalls Tryz.prog 127 [ptrA q, .lit (.int .i64 n)] σ fun v σ'=>v= .lit (.bool (openS s n))∧σ'=σ:=by
 have hof:=fun τ (hτ:Prg τ q r s)=>fof_calls hτ hn
 have hat:=fun τ (hτ:Prg τ q r s)=>at_calls hτ (n:Int)
 simp only[cellA_eq,attrAt_at hn] at hat
 have hfa:∀f:Fld,fldA f= .agg [.lit (.bool f.prot), .lit (.bool f.num), .lit (.int .i64 f.disp), .lit (.bool f.mod)]:=fun _=>rfl
 refine aw st127 pl127 30 Tryz.func127 rfl ?_
 unfold openS
 generalize fldAt s (startS s.cells n).toNat=f at*
 generalize startS s.cells n=a at*
 generalize attrAt s.cells n=at0 at*
 rw[hfa] at hof
 by_cases h0:0≤a
 ·simp[h0] at hof
  simp
  refine callK.of (hof _ h) ?_
  rintro v σ' ⟨rfl,rfl⟩
  simp
  intro b hb
  refine callK.of (hat _ (h.new hb _)) ?_
  rintro v σ' ⟨rfl,rfl⟩
  cases at0<;>simp[h0]<;>exact sub_upd_self _ _ _ hb
 ·simp[h0] at hof
  simp
  refine callK.of (hof _ h) ?_
  rintro v σ' ⟨rfl,rfl⟩
  simp
  intro b hb
  refine callK.of (hat _ (h.new hb _)) ?_
  rintro v σ' ⟨rfl,rfl⟩
  cases at0<;>simp[h0]<;>exact sub_upd_self _ _ _ hb
theorem first_calls {q r:Nat} {s:Sp} {σ:Store} (h:Prg σ q r s) {n:Nat} (hn:n<s.n):ACalls Tryz.prog 119 [ptrA q, .lit (.int .i64 n)] σ fun v σ'=>v= .lit (.bool (firstS s n))∧σ'=σ:=by
 have hat:=fun τ (hτ:Prg τ q r s)=>at_calls hτ (n:Int)
 have hat1:=fun τ (hτ:Prg τ q r s)=>at_calls hτ ((n:Int)-1)
 have hof:=fun τ=>of_calls (s.at ((n:Int)-1)).fa τ
 have hfa:∀f:Fld,fldA f= .agg [.lit (.bool f.prot), .lit (.bool f.num), .lit (.int .i64 f.disp), .lit (.bool f.mod)]:=fun _=>rfl
 have hnl:=s.n_le
 have hi:IntKind.i64.wrap ((n:Int)-1)=(n:Int)-1:=wrap_i64 (by omega) (by omega)
 unfold firstS
 simp only[cellA_eq] at hat hat1
 rw[hfa] at hof
 generalize fld (s.at ((n:Int)-1)).fa=f at*
 generalize s.at ((n:Int)-1)=c at*
 generalize s.at (n:Int)=d at*
 refine aw st119 pl119 26 Tryz.func119 rfl ?_
 cases hc:c.attr
 ·simp[hi]
  refine callK.of (hat1 _ h) ?_
  rintro v σ' ⟨rfl,rfl⟩
  simp[hc]
  exact fun b hb=>sub_upd_self _ _ _ hb
 ·cases hd:d.attr
  ·simp[hi]
   refine callK.of (hat1 _ h) ?_
   rintro v σ' ⟨rfl,rfl⟩
   simp[hc]
   intro b hb
   refine callK.of (hat _ (h.new hb _)) ?_
   rintro v σ' ⟨rfl,rfl⟩
   simp[hd]
   refine callK.of (hof _) ?_
   rintro v σ' ⟨rfl,rfl⟩
   simp
   exact sub_upd_self _ _ _ hb
  ·simp[hi]
   refine callK.of (hat1 _ h) ?_
   rintro v σ' ⟨rfl,rfl⟩
   simp[hc]
   intro b hb
   refine callK.of (hat _ (h.new hb _)) ?_
   rintro v σ' ⟨rfl,rfl⟩
   simp[hd]
   exact sub_upd_self _ _ _ hb
theorem find_calls {q r:Nat} {s:Sp} {σ:Store} (h:Prg σ q r s) {n:Nat} (hn:n<s.n):ACalls Tryz.prog 105 [ptrA q, .lit (.int .i64 n), .lit (.int .i64 1)] σ fun v σ'=>v= .lit (.int .i64 (nextS s n))∧σ'=σ:=by
 have hsz:=fun τ (hτ:Prg τ q r s)=>size_calls hτ
 have hcl:=fun τ=>scells_calls s τ
 have hnl:=s.n_le
 have hpos:=s.n_pos
 refine aw st105 pl105 24 Tryz.func105 rfl ?_
 simp
 refine callK.of (hsz _ h) ?_
 rintro v σ' ⟨rfl,rfl⟩
 simp
 intro b hb
 refine callK.of (hcl _) ?_
 rintro v σ2 ⟨rfl,rfl⟩
 simp
 refine codeK.loop follows (st:=st105) (plans:=pl105) (X:=Nat) (fun j=>j≤s.n∧∀i,i<j→firstS s ((n+i+1) % s.n)=false)
  (fun j=>[(0,ptrA q),(1, .lit (.int .i64 ((n+j) % s.n:Nat))),(2, .lit (.int .i64 1)),(7,ptrA b),(11, .lit (.int .i64 s.n)),(12, .lit (.int .i64 j))]) (fun _=>σ'.upd b [.lit (.int .i64 s.rows), .lit (.int .i64 s.cols)]) (fun j=>s.n-j) 0 (by kernel_rfl) (by simp) (by simp[Nat.mod_eq_of_lt hn]) (by first|exact Store.sub_refl _|(intro q;simp only[Store.upd,Store.del];(repeat' split)<;>first|exact Or.inr rfl|exact Or.inl rfl|(exfalso;omega)|(left;subst_vars;assumption)|simp_all)) fun j hj=> ?_
 obtain ⟨hj,hk⟩:=hj
 by_cases hlt:j<s.n
 ·have hw:IntKind.i64.wrap ((j:Int)+1)=((j+1:Nat):Int):=wrap_i64 (by omega) (by omega)
  have hm:=Nat.mod_lt (n+j) hpos
  have e1:((n+j) % s.n+1) % s.n=(n+j+1) % s.n:=Nat.mod_add_mod ..
  have e2:(n+(j+1)) % s.n=(n+j+1) % s.n:=rfl
  have hsw:=fun τ=>swrap_calls s (((n+j) % s.n+1:Nat):Int) τ
  rw[wrap_mod hpos,e1] at hsw
  have hi:IntKind.i64.wrap ((((n+j) % s.n:Nat):Int)+1)=(((n+j) % s.n+1:Nat):Int):=by rw[wrap_i64 (by omega) (by omega)];omega
  have hm2:=Nat.mod_lt (n+j+1) hpos
  have hfc:=fun τ (hτ:Prg τ q r s)=>first_calls hτ hm2
  have hfound:firstS s ((n+j+1) % s.n)=true→nextS s n=((n+j+1) % s.n:Nat):=fun h1=>by
   have:(List.range s.n).find? (fun i=>firstS s ((n+i+1) % s.n))=some j:=by
    rw[List.find?_range_eq_some]
    exact ⟨h1,by simp[hlt],fun i hi=>by simp[hk i hi]⟩
   unfold nextS;rw[this]
  have hnx:firstS s ((n+j+1) % s.n)=false→∀i,i<j+1→firstS s ((n+i+1) % s.n)=false:=fun h1 i hi=>by
   by_cases e:i=j
   ·subst e;exact h1
   ·exact hk i (by omega)
  have hcast:((n:Int)+((j:Int)+1)) % (s.n:Int)=(((n+j+1) % s.n:Nat):Int):=by rw[Int.natCast_emod,show (n:Int)+((j:Int)+1)=((n+j+1:Nat):Int) from by omega]
  generalize (n+j+1) % s.n=m2 at*
  generalize (n+j) % s.n=m at*
  simp[hlt,hi]
  refine callK.of (hsw _) ?_
  rintro v σ3 ⟨rfl,rfl⟩
  simp
  refine callK.of (hfc _ (h.new hb _)) ?_
  rintro v σ3 ⟨rfl,rfl⟩
  cases h1:firstS s m2
  ·simp
   exact ⟨j+1,⟨by omega,hnx h1⟩,by omega,by simpa[hw] using le_of_eq (by rw[hcast])⟩
  ·rw[hfound h1]
   simp
   exact sub_upd_self _ _ _ hb
 ·obtain rfl:j=s.n:=by omega
  have hnone:nextS s n= -1:=by
   have:(List.range s.n).find? (fun i=>firstS s ((n+i+1) % s.n))=none:=by
    rw[List.find?_eq_none]
    intro i hi
    simp at hi
    simp[hk i hi]
   unfold nextS;rw[this]
  rw[hnone]
  simp
  exact sub_upd_self _ _ _ hb
theorem fnext_calls {q r:Nat} {s:Sp} {σ:Store} (h:Prg σ q r s) {n:Nat} (hn:n<s.n):ACalls Tryz.prog 73 [ptrA q, .lit (.int .i64 n)] σ fun v σ'=>v= .lit (.int .i64 (nextS s n))∧σ'=σ:=by
 have hsz:=fun τ (hτ:Prg τ q r s)=>size_calls hτ
 have hw:=fun τ=>swrap_calls s (n:Int) τ
 rw[wrap_of_lt hn] at hw
 refine aw st73 pl73 11 Tryz.func73 rfl ?_
 simp
 refine callK.of (hsz _ h) ?_
 rintro v σ' ⟨rfl,rfl⟩
 simp
 refine callK.of (hw _) ?_
 rintro v σ' ⟨rfl,rfl⟩
 simp
 refine callK.of (find_calls h hn) ?_
 rintro v σ' ⟨rfl,rfl⟩
 simp
def rangeTo (s:Sp) (f t k:Nat):Sp:=rangeS s ((spanL s.n f t).take k)
theorem spanL_length (N f t:Nat):(spanL N f t).length=spanLen N f t:=by simp[spanL]
theorem spanL_get (N f t k:Nat) (h:k<(spanL N f t).length):(spanL N f t)[k]=(f+k) % N:=by simp[spanL]
theorem rangeTo_succ (s:Sp) (f t k:Nat) (h:k<spanLen s.n f t):rangeTo s f t (k+1)=if openS (rangeTo s f t k) ((f+k) % s.n)=true then (rangeTo s f t k).put ((f+k) % s.n:Nat) 0 else rangeTo s f t k:=by
 have hk:k<(spanL s.n f t).length:=by rw[spanL_length];exact h
 unfold rangeTo rangeS
 rw[List.take_succ_eq_append_getElem hk,List.foldl_append,List.foldl_cons,List.foldl_nil,spanL_get]
theorem rangeTo_all (s:Sp) (f t:Nat):rangeTo s f t (spanLen s.n f t)=rangeS s (spanL s.n f t):=by
 unfold rangeTo;rw[←spanL_length,List.take_length]
theorem rangeTo_same {s:Sp} (h:s.good) (f t k:Nat):SameN s (rangeTo s f t k):=(SameN.refl h).rangeS _
structure Lv (σ ρ:Store) (q r:Nat) (s:Sp):Prop where
 prg:Prg ρ q r s
 sub:Store.sub (putS spO σ q r s) ρ
theorem putS_at {f:Sp→Nat→List AV} {σ:Store} {q r o:Nat} {s:Sp} (h1:¬o=q) (h2:¬o=r):putS f σ q r s o=σ o:=by simp[putS,h1,h2]
theorem Lv.put {σ ρ:Store} {q r:Nat} {s:Sp} (h:Lv σ ρ q r s) {s2:Sp} (hg:s2.good):Lv σ (putS spO ρ q r s2) q r s2:=by
 refine ⟨Scr.of_put h.prg.ne hg,Store.sub2 (fun o=> ?_) (fun i=>by simpa[putS] using h.sub (mkey i))⟩
 by_cases h1:o=q
 ·subst h1;right;simp[putS]
 ·by_cases h2:o=r
  ·subst h2;right;simp[putS]
  ·rw[putS_at h1 h2,putS_at h1 h2]
   have:=h.sub o
   rwa[putS_at h1 h2] at this
theorem Lv.new {σ ρ:Store} {q r:Nat} {s:Sp} (h:Lv σ ρ q r s) {b:Nat} (hb:ρ b=none) (X:List AV):Lv σ (ρ.upd b X) q r s:=
 ⟨h.prg.new hb X,Store.sub_trans h.sub (Store.sub_upd hb (Store.sub_refl _))⟩
theorem Lv.refl {σ:Store} {q r:Nat} {s:Sp} (h:Prg σ q r s):Lv σ σ q r s:=⟨h,by rw[h.put_self];exact Store.sub_refl _⟩
theorem Lv.mono {σ ρ ρ':Store} {q r:Nat} {s:Sp} (h:Lv σ ρ q r s) (hs:Store.sub ρ ρ'):Lv σ ρ' q r s:=⟨prg_mono h.prg hs,Store.sub_trans h.sub hs⟩
theorem NeedB.put {b1 b2 b3:Nat} {s:Sp} {f t:Nat} {τ:Store} (h:NeedB b1 b2 b3 s f t τ) {q r:Nat} (g1:¬b1=q∧¬b1=r) (g2:¬b2=q∧¬b2=r) (g3:¬b3=q∧¬b3=r) (s2:Sp):NeedB b1 b2 b3 s f t (putS spO τ q r s2):=
 ⟨by rw[putS_at g1.1 g1.2];exact h.1,by rw[putS_at g2.1 g2.2];exact h.2.1,by rw[putS_at g3.1 g3.2];exact h.2.2⟩
theorem range_calls {q r:Nat} {s:Sp} {σ:Store} (h:Prg σ q r s) {f t:Nat} (hf:f<s.n) (ht:t<s.n):ACalls Tryz.prog 124 [ptrA q, .lit (.int .i64 f), .lit (.int .i64 t)] σ fun v σ'=>v= .tuple []∧σ'=putS spO σ q r (rangeS s (spanL s.n f t)):=by
 have hsz:=fun τ (hτ:Prg τ q r s)=>size_calls hτ
 have hsp:=fun τ=>span_calls2 s f t τ
 have hsame:=rangeTo_same h.good f t
 have hall:=rangeTo_all s f t
 have hz0:rangeTo s f t 0=s:=rfl
 rw[←hall]
 refine ACalls.of_awpY follows (st:=st124) (plans:=pl124) (n:=19) Tryz.func124 rfl (by kernel_rfl) (by kernel_rfl) (by kernel_rfl) ?_
 simp
 intro b hb
 have hb0:=h.fresh hb
 refine callK.of (hsz _ (h.new hb _)) ?_
 rintro v σ' ⟨rfl,rfl⟩
 simp
 refine callK.of (hsp _) ?_
 rintro v σ' ⟨b1,b2,b3,rfl,f1,f2,f3,n1,n2,n3,rfl⟩
 simp only[supd_apply,ite_none] at f1 f2 f3
 have g1:=h.fresh f1.2
 have g2:=h.fresh f2.2
 have g3:=h.fresh f3.2
 simp
 refine codeYK.rangeG follows (st:=st124) (plans:=pl124) (span_iter b1 b2 b3 s hf ht _) (by simp) (by simp) (by simp) (by kernel_rfl) (by kernel_rfl) (by kernel_rfl)
  (fun k ρ E=>Lv σ ρ q r (rangeTo s f t k)∧ρ b=some [ptrA q]∧NeedB b1 b2 b3 s f t ρ) (fun c ρ E=>False)
  _ ⟨?_, ?_, ?_⟩ (Store.sub_refl _) ?_ ?_ ?_ ?_
 ·rw[hz0]
  have l1:=(Lv.refl h).new hb [ptrA q]
  have l2:=l1.new (b:=b1) (by simp[f1]) [.lit (.int .i64 s.rows), .lit (.int .i64 s.cols)]
  have l3:=l2.new (b:=b2) (by simp[f2,Ne.symm n1]) [.lit (.int .i64 f)]
  exact l3.new (b:=b3) (by simp[f3,Ne.symm n2,Ne.symm n3]) [.lit (.int .i64 t)]
 ·simp[Ne.symm f1.1,Ne.symm f2.1,Ne.symm f3.1]
 ·exact ⟨by simp[n1,n2],by simp[n3],by simp⟩
 ·rintro k ρ E hk ⟨_,_,hN⟩
  exact hN
 ·rintro k hk ρ E ⟨hL,hρb,hN⟩
  have hm:=Nat.mod_lt (f+k) s.n_pos
  have hsk:=hsame k
  have hsucc:=rangeTo_succ s f t k hk
  generalize (f+k) % s.n=m at*
  generalize rangeTo s f t k=sk at*
  have hop:=open_calls hL.prg (n:=m) (by rw[hsk.n];exact hm)
  have hpu:=pput_calls hL.prg (m:Int) 0
  by_cases ho:openS sk m=true
  ·rw[if_pos ho] at hsucc
   rw[ho] at hop
   simp[hρb]
   refine callK.of hop ?_
   rintro v σ2 ⟨rfl,rfl⟩
   simp[hρb]
   refine callK.of hpu ?_
   rintro v σ3 ⟨rfl,rfl⟩
   simp
   rw[hsucc]
   exact ⟨_,Store.sub_refl _,hL.put (hsk.1.put _ _),by rw[putS_at hb0.2.2.1 hb0.2.2.2];exact hρb,hN.put ⟨g1.2.2.1,g1.2.2.2⟩ ⟨g2.2.2.1,g2.2.2.2⟩ ⟨g3.2.2.1,g3.2.2.2⟩ _⟩
  ·rw[if_neg ho] at hsucc
   rw[show openS sk m=false by simpa using ho] at hop
   simp[hρb]
   refine callK.of hop ?_
   rintro v σ2 ⟨rfl,rfl⟩
   simp
   rw[hsucc]
   exact ⟨_,Store.sub_refl _,hL,hρb,hN⟩
 ·rintro ρ E2 σ2 hs2 ⟨hL,_,_⟩
  simp
  exact (hL.mono hs2).sub
 ·rintro c ρ E2 σ2 hs2 hF
  exact hF.elim
def repeatTo (s:Sp) (f t:Nat) (c:Cell) (k:Nat):Sp:=repeatS s ((spanL s.n f t).take k) c
theorem repeatTo_succ (s:Sp) (f t:Nat) (c:Cell) (k:Nat) (h:k<spanLen s.n f t):repeatTo s f t c (k+1)=(repeatTo s f t c k).set ((f+k) % s.n:Nat) c:=by
 have hk:k<(spanL s.n f t).length:=by rw[spanL_length];exact h
 unfold repeatTo repeatS
 rw[List.take_succ_eq_append_getElem hk,List.foldl_append,List.foldl_cons,List.foldl_nil,spanL_get]
theorem repeatTo_all (s:Sp) (f t:Nat) (c:Cell):repeatTo s f t c (spanLen s.n f t)=repeatS s (spanL s.n f t) c:=by
 unfold repeatTo;rw[←spanL_length,List.take_length]
theorem repeatTo_same {s:Sp} (h:s.good) (f t:Nat) (c:Cell) (k:Nat):SameN s (repeatTo s f t c k):=(SameN.refl h).repeatS _ _
theorem repeat_calls {q r:Nat} {s:Sp} {σ:Store} (h:Prg σ q r s) {f t:Nat} (hf:f<s.n) (ht:t<s.n) (c:Cell):ACalls Tryz.prog 125 [ptrA q, .lit (.int .i64 f), .lit (.int .i64 t),cellA c] σ fun v σ'=>(∃n:Int,v= .lit (.int .i64 n))∧σ'=putS spO σ q r (repeatS s (spanL s.n f t) c):=by
 have hsz:=fun τ (hτ:Prg τ q r s)=>size_calls hτ
 have hsp:=fun τ=>span_calls2 s f t τ
 have hsame:=repeatTo_same h.good f t c
 have hall:=repeatTo_all s f t c
 have hz0:repeatTo s f t c 0=s:=rfl
 have hnl:=s.n_le
 have hsl:=spanLen_pos (f:=f) (t:=t) s.n_pos
 rw[←hall,cellA_eq]
 refine ACalls.of_awpY follows (st:=st125) (plans:=pl125) (n:=24) Tryz.func125 rfl (by kernel_rfl) (by kernel_rfl) (by kernel_rfl) ?_
 simp+contextual [ite_free]
 intro b hb b7 a1 a2 hb7 b9 a3 a4 a5 a6 hb9
 have hb0:=h.fresh hb
 have hb70:=h.fresh hb7
 have hb90:=h.fresh hb9
 generalize hX:[byteA c.char,AV.lit (.bool c.attr),byteA c.fa,byteA c.high,byteA c.color,byteA c.set]=X at*
 have hL0:Lv σ (((σ.upd b [ptrA q]).upd b7 X).upd b9 [.lit (.int .i64 0)]) q r s:=(((Lv.refl h).new hb _).new (by simp[a1,hb7]) _).new (by simp[a3,a5,hb9]) _
 refine callK.of (hsz _ hL0.prg) ?_
 rintro v σ' ⟨rfl,rfl⟩
 simp
 refine callK.of (hsp _) ?_
 rintro v σ' ⟨b1,b2,b3,rfl,f1,f2,f3,n1,n2,n3,rfl⟩
 simp only[supd_apply,ite_none] at f1 f2 f3
 have g1:=h.fresh f1.2.2.2
 have g2:=h.fresh f2.2.2.2
 have g3:=h.fresh f3.2.2.2
 simp
 refine codeYK.rangeG follows (st:=st125) (plans:=pl125) (span_iter b1 b2 b3 s hf ht _) (by simp) (by simp) (by simp) (by kernel_rfl) (by kernel_rfl) (by kernel_rfl)
  (fun k ρ E=>Lv σ ρ q r (repeatTo s f t c k)∧ρ b=some [ptrA q]∧ρ b7=some X∧ρ b9=some [.lit (.int .i64 k)]∧NeedB b1 b2 b3 s f t ρ) (fun c ρ E=>False)
  _ ⟨?_, ?_, ?_, ?_, ?_⟩ (Store.sub_refl _) ?_ ?_ ?_ ?_
 ·rw[hz0]
  have l2:=hL0.new (b:=b1) (by simp[f1]) [.lit (.int .i64 s.rows), .lit (.int .i64 s.cols)]
  have l3:=l2.new (b:=b2) (by simp[f2,Ne.symm n1]) [.lit (.int .i64 f)]
  exact l3.new (b:=b3) (by simp[f3,Ne.symm n2,Ne.symm n3]) [.lit (.int .i64 t)]
 ·simp[Ne.symm f1.2.2.1,Ne.symm f2.2.2.1,Ne.symm f3.2.2.1,a2,a6]
 ·simp[Ne.symm f1.2.1,Ne.symm f2.2.1,Ne.symm f3.2.1,a4]
 ·simp[Ne.symm f1.1,Ne.symm f2.1,Ne.symm f3.1]
 ·exact ⟨by simp[n1,n2],by simp[n3],by simp⟩
 ·rintro k ρ E hk ⟨_,_,_,_,hN⟩
  exact hN
 ·rintro k hk ρ E ⟨hL,hρb,hρ7,hρ9,hN⟩
  have hm:=Nat.mod_lt (f+k) s.n_pos
  have hsk:=hsame k
  have hsucc:=repeatTo_succ s f t c k hk
  have hw:IntKind.i64.wrap ((k:Int)+1)=((k+1:Nat):Int):=wrap_i64 (by omega) (by omega)
  generalize (f+k) % s.n=m at*
  generalize repeatTo s f t c k=sk at*
  have hse:=set_calls hL.prg (m:Int) c
  rw[cellA_eq] at hse
  have hX':=hX
  rw[←hX] at hρ7
  simp[hρb,hρ7]
  refine callK.of hse ?_
  rintro v σ3 ⟨rfl,rfl⟩
  have k9:(putS spO ρ q r (sk.set (m:Int) c)) b9=some [.lit (.int .i64 k)]:=by rw[putS_at hb90.2.2.1 hb90.2.2.2];exact hρ9
  simp[k9,hw]
  rw[hsucc]
  have l1:=hL.put (hsk.1.set (m:Int) c)
  refine ⟨_,Store.sub_refl _,⟨l1.prg.upd ⟨Ne.symm hb90.2.2.1,Ne.symm hb90.2.2.2⟩ _, ?_⟩, ?_, ?_,by simp, ?_⟩
  ·refine Store.sub2 (fun o=> ?_) (fun i=>by simpa using l1.sub (mkey i))
   by_cases ho:o=b9
   ·subst ho;left;rw[putS_at hb90.2.2.1 hb90.2.2.2];exact hb9
   ·simp only[supd_apply,if_neg ho];exact l1.sub o
  ·simp[putS_at hb0.2.2.1 hb0.2.2.2,hρb]
   exact a6
  ·simp[putS_at hb70.2.2.1 hb70.2.2.2,hρ7,hX]
   exact fun e=>absurd e a4
  ·have hN2:=hN.put ⟨g1.2.2.1,g1.2.2.2⟩ ⟨g2.2.2.1,g2.2.2.2⟩ ⟨g3.2.2.1,g3.2.2.2⟩ (sk.set (m:Int) c)
   exact ⟨by simp[f1.1,hN2.1],by simp[f2.1,hN2.2.1],by simp[f3.1,hN2.2.2]⟩
 ·rintro ρ E2 σ2 hs2 ⟨hL,_,_,h9,_⟩
  have h9':=sub_at h9 hs2
  simp[h9']
  exact ⟨_,AV.le_refl _,(hL.mono hs2).sub,_,rfl⟩
 ·rintro c ρ E2 σ2 hs2 hF
  exact hF.elim
end Go.Proofs.YtjnopnpkfhopbaaGreatDoor
