/-
 All orders, as the document reads them: one behind the other.
-/
import Derived.Test.YtjnopnpkfhopbaaGreatDoorPart26
set_option linter.unusedSimpArgs false
set_option linter.unusedVariables false
set_option maxRecDepth 8000
set_option maxHeartbeats 8000000
namespace Go.Proofs.YtjnopnpkfhopbaaGreatDoor
open Go Go.AL Go.Sp
theorem rnext_calls (o:Bool) (l:List UInt8) (hne:l≠[]) (hl:l.length≤1000000000) (σ:Store):ACalls Tryz.prog 110 [.list o 1 (bytesA l)] σ (NextR l σ):=by
 rcases l with _|⟨c,tl⟩
 ·exact absurd rfl hne
 have htl:tl.length≤1000000000:=by simp at hl;omega
 by_cases hc:isOrd c=true
 ·rcases isOrd_cases hc with rfl|rfl|rfl|rfl|rfl|rfl|rfl|rfl|rfl|rfl
  ·exact rnext_5 o tl σ
  ·exact rnext_8 o tl σ
  ·exact rnext_17 o tl σ
  ·exact rnext_18 o tl σ
  ·exact rnext_19 o tl σ
  ·exact rnext_29 o tl σ
  ·exact rnext_40 o tl σ
  ·exact rnext_41 o tl htl σ
  ·exact rnext_44 o tl htl σ
  ·exact rnext_60 o tl σ
 ·exact rnext_text o c tl (by simpa using hc) htl σ
def RallR (l:List UInt8) (σ:Store) (v:AV) (σ':Store):Prop:=∃(os:List Op) (k e:Nat),v= .tuple [.list true 7 (opsA os), .lit (.int .i64 k), .lit (.int .i64 e)]∧σ'=σ∧os.length≤l.length∧
 (e=0→(allF l).2=0∧(allF l).1.map (·.kind)=os.map (·.kind))∧((allF l).2=0→(∀o∈(allF l).1,¬o.kind=17∧¬o.kind=18∧¬o.kind=60)→e=0)∧∀o∈os,o.text.length≤l.length∧o.pairs.length≤1000
theorem rall_calls (o:Bool) (l:List UInt8) (hl:l.length≤1000000000) (σ:Store):ACalls Tryz.prog 93 [.list o 1 (bytesA l)] σ (RallR l σ):=by
 refine aw st93 pl93 36 Tryz.func93 rfl ?_
 simp
 refine codeK.loop follows (st:=st93) (plans:=pl93) (X:=Nat×List Op) (fun x=>x.1≤l.length∧(∀o∈(allF (l.drop x.1)).1,o∈(allF l).1)∧(allF l).2=(allF (l.drop x.1)).2∧(allF l).1.map (·.kind)=x.2.map (·.kind)++(allF (l.drop x.1)).1.map (·.kind)∧x.2.length≤x.1∧∀o∈x.2,o.text.length≤l.length∧o.pairs.length≤1000)
  (fun x=>[(0, .list o 1 (bytesA l)),(5, .list true 7 (opsA x.2)),(6, .lit (.int .i64 x.1))]) (fun _=>σ) (fun x=>l.length-x.1) (0,[]) (by kernel_rfl) (by simp) (by simp[opsA]) (Store.sub_refl _) ?_
 rintro ⟨i,os⟩ ⟨hi,hM,hE,hO,hos,htos⟩
 dsimp only at hi hM hE hO hos htos⊢
 by_cases hlt:i<l.length
 ·have hdl:(l.drop i).length=l.length-i:=by simp
  have hdne:l.drop i≠[]:=fun e=>by rw[e] at hdl;simp at hdl;omega
  have hnx:=fun τ=>rnext_calls false (l.drop i) hdne (by omega) τ
  have hbt:((bytesA l).take l.length).drop i=bytesA (l.drop i):=by rw[htake];simp[bytesA]
  have hlt':(i:Int)<l.length:=by omega
  have hcons:∃c tl,l.drop i=c::tl:=by
   cases hd:l.drop i with
   |nil=>exact absurd hd hdne
   |cons c tl=>exact ⟨c,tl,rfl⟩
  obtain ⟨c,tl,hcd⟩:=hcons
  simp[hlt,hlt',hbt,hi]
  refine callK.of (hnx _) ?_
  rintro v σ' ⟨op,n,e,rfl,rfl,hn,hee,hbb,htp⟩
  have hw:IntKind.i64.wrap ((i:Int)+(n:Int))=((i+n:Nat):Int):=by rw[wrap_i64 (by omega) (by omega)];omega
  have hstep:e=0→0<n∧(∀o∈(allF (l.drop (i+n))).1,o∈(allF l).1)∧(allF l).2=(allF (l.drop (i+n))).2∧(allF l).1.map (·.kind)=(os++[op]).map (·.kind)++(allF (l.drop (i+n))).1.map (·.kind):=fun he=>by
   obtain ⟨e1,e2,e3⟩:=hee he
   have hlen:=opF_len hdne
   rw[e3,List.length_drop,hdl] at hlen
   rw[hcd] at e1 e2 e3 hE hO
   rw[hcd] at hM
   rw[allF_cons,if_pos e1] at hE hO hM
   rw[e3,←hcd,List.drop_drop] at hE hO hM
   refine ⟨by omega,fun o ho=>hM o (List.mem_cons_of_mem _ ho),hE, ?_⟩
   rw[hO,List.map_append,List.append_assoc,List.map_cons,List.map_cons,List.map_nil,hcd,←e2];rfl
  have hlast:RallR l σ' (.tuple [.list true 7 (opsA os), .lit (.int .i64 i), .lit (.int .i64 e)]) σ'∨e=0:=by
   by_cases he:e=0
   ·exact .inr he
   ·refine .inl ⟨os,i,e,rfl,rfl,by omega,fun h=>absurd h he,fun h0 hk=> ?_,htos⟩
    rw[hE,hcd,allF_cons] at h0
    by_cases e1:(opF (c::tl)).1=0
    ·rw[hcd] at hbb hM
     have hmem:(opF (c::tl)).2.1∈(allF l).1:=hM _ (by rw[allF_cons,if_pos e1];simp)
     obtain ⟨k1,k2,k3⟩:=hk _ hmem
     rcases hbb e1 with h|h|h|h
     ·exact absurd h k1
     ·exact absurd h k2
     ·exact absurd h k3
     ·exact h
    ·rw[if_neg e1] at h0;exact absurd h0 e1
  have htn:∀o∈os++[op],o.text.length≤l.length∧o.pairs.length≤1000:=fun o ho=>by
   rcases List.mem_append.1 ho with h|h
   ·exact htos o h
   ·rw[List.mem_singleton.1 h];exact ⟨by have:=htp.1;rw[hdl] at this;omega,htp.2⟩
  have happ:=opsA_append os [op]
  obtain ⟨kind,addr,code,graph,fa,pairs,text⟩:=op
  simp only[opsA,opA,opC,List.map_cons,List.map_nil] at happ
  simp[opA,opC]
  intro r hr
  by_cases he:e=0
  ·obtain ⟨h1,h0,h2,h3⟩:=hstep he
   simp[he]
   refine ⟨by omega,by omega,i+n,os++[⟨kind,addr,code,graph,fa,pairs,text⟩],⟨by omega,h0,h2,h3,by simp;omega,htn⟩,by omega,⟨?_, ?_⟩, ?_⟩
   ·rw[opsA_append];exact AV.le_refl _
   ·rw[hw];exact AV.le_refl _
   ·exact sub_upd_self _ _ _ hr
  ·simp[he]
   exact ⟨_,AV.le_refl _,_,sub_upd_self _ _ _ hr,hlast.resolve_right he⟩
 ·obtain rfl:i=l.length:=by omega
  simp
  refine ⟨_,AV.le_refl _,_,Store.sub_refl _,os,l.length,0,rfl,rfl,hos,fun _=> ?_,fun _ _=>rfl,htos⟩
  rw[List.drop_length] at hE hO
  exact ⟨hE,by rw[hO];simp[allF_nil]⟩
@[simp] def st96x:List Nat:=[5000002,5000003,4000007,4000011,4000013,4000017,4000020,4000024,4000028,4000032,4000035,4000039,4000043,4000046,4000050,4000054]
def SomeC (σ:Store) (v:AV) (σ':Store):Prop:=∃(d:Cell) (e:Nat),v= .tuple [cellA d, .lit (.int .i64 e)]∧σ'=σ
theorem some_fin {σ ρ:Store} {v:AV} (d:Cell) (e:Nat) (hv:v.le (.tuple [cellA d, .lit (.int .i64 e)])) (hs:Store.sub σ ρ):∃v',v.le v'∧∃x,Store.sub x ρ∧SomeC σ v' x:=⟨_,hv,σ,hs,d,e,rfl,rfl⟩
theorem rapply_calls (t v:UInt8) (c:Cell) (σ:Store):ACalls Tryz.prog 96 [.agg [byteA t,byteA v],cellA c] σ (SomeC σ):=by
 have hr:=right_calls t v
 have h6:=rsix_calls v
 rw[cellA_eq]
 refine aw st96x pl96 57 Tryz.func96 rfl ?_
 by_cases hok:okP t.toNat v.toNat
 ·rw[decide_eq_true hok] at hr
  have key:∀n:UInt8,t=n→byteA t= .lit (.int .u8 n.toNat):=fun n h=>by rw[h];rfl
  have hcase:t=0∨t=192∨t=65∨t=66∨t=67:=by
   rcases hok with h|h|h|h|h
   ·exact .inl (UInt8.toNat_inj.1 h.1)
   ·exact .inr (.inl (UInt8.toNat_inj.1 h))
   ·exact .inr (.inr (.inl (UInt8.toNat_inj.1 h.1)))
   ·exact .inr (.inr (.inr (.inl (UInt8.toNat_inj.1 h.1))))
   ·exact .inr (.inr (.inr (.inr (UInt8.toNat_inj.1 h.1))))
  rcases hcase with rfl|rfl|rfl|rfl|rfl
  ·have e1:byteA 0= .lit (.int .u8 0):=rfl
   rw[e1] at hr⊢
   simp
   intro p4 hp4
   refine callK.eq (hr _) ?_
   simp
   intro p6 hp6
   simp only[ite_none] at hp6
   obtain ⟨n6,hp6⟩:=hp6
   simp[n6,Ne.symm n6]
   exact some_fin {c with high:=v,color:=v,set:=v} 0 (AV.le_refl _) (by have:=Ne.symm n6;(intro q;simp only[Store.upd,Store.del];(repeat' split)<;>first|exact Or.inr rfl|exact Or.inl rfl|(exfalso;omega)|(left;subst_vars;assumption)|simp_all))
  ·have e1:byteA 192= .lit (.int .u8 192):=rfl
   rw[e1] at hr⊢
   cases hc:c.attr
   ·simp
    intro p4 hp4
    refine callK.eq (hr _) ?_
    simp
    intro p6 hp6
    simp only[ite_none] at hp6
    obtain ⟨n6,hp6⟩:=hp6
    simp[n6,Ne.symm n6]
    refine some_fin c 0 ?_ (by have:=Ne.symm n6;(intro q;simp only[Store.upd,Store.del];(repeat' split)<;>first|exact Or.inr rfl|exact Or.inl rfl|(exfalso;omega)|(left;subst_vars;assumption)|simp_all))
    rw[cellA_eq,hc];exact AV.le_refl _
   ·simp
    intro p4 hp4
    refine callK.eq (hr _) ?_
    simp
    intro p6 hp6
    simp only[ite_none] at hp6
    obtain ⟨n6,hp6⟩:=hp6
    refine callK.eq (h6 _) ?_
    simp[n6,Ne.symm n6]
    refine some_fin {c with fa:=Sp.six v} 0 ?_ (by have:=Ne.symm n6;(intro q;simp only[Store.upd,Store.del];(repeat' split)<;>first|exact Or.inr rfl|exact Or.inl rfl|(exfalso;omega)|(left;subst_vars;assumption)|simp_all))
    rw[cellA_eq,hc];exact AV.le_refl _
  ·have e1:byteA 65= .lit (.int .u8 65):=rfl
   rw[e1] at hr⊢
   simp
   intro p4 hp4
   refine callK.eq (hr _) ?_
   simp
   intro p6 hp6
   simp only[ite_none] at hp6
   obtain ⟨n6,hp6⟩:=hp6
   simp[n6,Ne.symm n6]
   exact some_fin {c with high:=v} 0 (AV.le_refl _) (by have:=Ne.symm n6;(intro q;simp only[Store.upd,Store.del];(repeat' split)<;>first|exact Or.inr rfl|exact Or.inl rfl|(exfalso;omega)|(left;subst_vars;assumption)|simp_all))
  ·have e1:byteA 66= .lit (.int .u8 66):=rfl
   rw[e1] at hr⊢
   simp
   intro p4 hp4
   refine callK.eq (hr _) ?_
   simp
   intro p6 hp6
   simp only[ite_none] at hp6
   obtain ⟨n6,hp6⟩:=hp6
   simp[n6,Ne.symm n6]
   exact some_fin {c with color:=v} 0 (AV.le_refl _) (by have:=Ne.symm n6;(intro q;simp only[Store.upd,Store.del];(repeat' split)<;>first|exact Or.inr rfl|exact Or.inl rfl|(exfalso;omega)|(left;subst_vars;assumption)|simp_all))
  ·have e1:byteA 67= .lit (.int .u8 67):=rfl
   rw[e1] at hr⊢
   simp
   intro p4 hp4
   refine callK.eq (hr _) ?_
   simp
   intro p6 hp6
   simp only[ite_none] at hp6
   obtain ⟨n6,hp6⟩:=hp6
   simp[n6,Ne.symm n6]
   exact some_fin {c with set:=v} 0 (AV.le_refl _) (by have:=Ne.symm n6;(intro q;simp only[Store.upd,Store.del];(repeat' split)<;>first|exact Or.inr rfl|exact Or.inl rfl|(exfalso;omega)|(left;subst_vars;assumption)|simp_all))
 ·rw[decide_eq_false hok] at hr
  simp
  intro p4 hp4
  refine callK.eq (hr _) ?_
  simp
  exact some_fin .zero 10 (AV.le_refl _) (sub_upd_self _ _ _ hp4)
@[simp] def st64x:List Nat:=[5000006,4000014]
theorem rapplied_calls (o:Bool) (c:Cell) (l:List (UInt8×UInt8)) (hl:l.length≤1000000000) (σ:Store):ACalls Tryz.prog 64 [cellA c, .list o 2 (pairsA l)] σ fun v σ'=>(∃d:Cell,v=cellA d)∧σ'=σ:=by
 rw[cellA_eq c]
 refine aw st64x pl64 21 Tryz.func64 rfl ?_
 have hpl:=pairsA_length l
 simp[hpl]
 intro b2 hb2 b4 hb4
 simp only[ite_none] at hb4
 obtain ⟨n1,hb4⟩:=hb4
 have n2:=Ne.symm n1
 refine codeK.loop follows (st:=st64x) (plans:=pl64) (X:=Nat×Cell) (fun x=>x.1≤l.length)
  (fun x=>[(2,ptrA b2),(4,ptrA b4),(7, .list false 2 (pairsA l)),(8, .lit (.int .i64 l.length)),(9, .lit (.int .i64 x.1))])
  (fun x=>(σ.upd b2 (cellC x.2)).upd b4 [.lit (.int .u8 0), .lit (.bool false), .lit (.int .u8 0), .lit (.int .u8 0), .lit (.int .u8 0), .lit (.int .u8 0)]) (fun x=>l.length-x.1) (0,c) (by kernel_rfl) (by simp) (by simp) (by simp only[cellC_eq];exact Store.sub_refl _) fun x hx=> ?_
 obtain ⟨i,d⟩:=x
 dsimp only at hx⊢
 by_cases hlt:i<l.length
 ·have hw:IntKind.i64.wrap ((i:Int)+1)=((i+1:Nat):Int):=wrap_i64 (by omega) (by omega)
  have hg:=pairsA_at l i hlt
  generalize l[i]=y at*
  have hap:=fun τ=>rapply_calls y.1 y.2 d τ
  rw[cellA_eq d] at hap
  rw[cellC_eq d]
  simp[hlt,hpl,hg,n2]
  intro b7 hb7
  simp only[ite_none] at hb7
  obtain ⟨m1,m2,hb7⟩:=hb7
  have m4:=Ne.symm m2
  rw[del_upd_new (by simp[m1,m2,hb7])]
  simp[m4]
  refine callK.of (hap _) ?_
  rintro v τ ⟨e,k,rfl,rfl⟩
  rw[cellA_eq e]
  simp[n2]
  refine ⟨i+1,by omega,by omega,by rw[hw];exact AV.le_refl _,e, ?_⟩
  rw[cellC_eq]
  (intro q;simp only[Store.upd,Store.del];(repeat' split)<;>first|exact Or.inr rfl|exact Or.inl rfl|(exfalso;omega)|(left;subst_vars;assumption)|simp_all)
 ·obtain rfl:i=l.length:=by omega
  rw[cellC_eq]
  simp[n2]
  exact ⟨_,AV.le_refl _,by (intro q;simp only[Store.upd,Store.del];(repeat' split)<;>first|exact Or.inr rfl|exact Or.inl rfl|(exfalso;omega)|(left;subst_vars;assumption)|simp_all),d,rfl⟩
theorem rpieces_calls (ow:Bool) {p:List UInt8} {os:List Op} {n:Nat} (h:BufIn p os n) (hk:∀o∈os,¬o.kind=17∧¬o.kind=18∧¬o.kind=60) (σ:Store):
  ACalls Tryz.prog 62 [.list ow 1 (bytesA p)] σ fun v σ'=>(∃l:List Op,v= .tuple [.lit (.int .i64 n), .list false 7 (opsA l), .lit (.int .i64 0)]∧l.length≤100000∧l.map (·.kind)=os.map (·.kind)∧∀o∈l,o.text.length≤100000∧o.pairs.length≤1000)∧σ'=σ:=by
 obtain ⟨hlong,⟨a,x,y,rest,rfl,hdec,hall⟩,hfine,htx⟩:=h
 have hrl:rest.length≤100000:=by simp at hlong;omega
 have hd:=fun σ=>rdec_calls false [x,y] σ
 have e1:adN [x,y]=n:=by show (decM x y).1=n;rw[hdec]
 have e2:adE [x,y]=0:=by show (decM x y).2=0;rw[hdec]
 rw[e1,e2] at hd
 have hr:∀σ,ACalls Tryz.prog 93 [.list false 1 (bytesA rest)] σ fun v σ'=>(∃(l:List Op) (k:Nat),v= .tuple [.list true 7 (opsA l), .lit (.int .i64 k), .lit (.int .i64 0)]∧l.length≤100000∧l.map (·.kind)=os.map (·.kind)∧∀o∈l,o.text.length≤100000∧o.pairs.length≤1000)∧σ'=σ:=fun σ=>by
  refine (rall_calls false rest (by omega) σ).mono ?_
  intro v τ hR
  obtain ⟨l,k,e,hv,hτ,hll,h1,h2,h3⟩:=hR
  have he:e=0:=h2 (by rw[hall]) fun o ho=>by rw[hall] at ho;exact hk o ho
  subst he
  have hkk:=(h1 rfl).2
  rw[hall] at hkk
  exact ⟨⟨l,k,hv,by omega,hkk.symm,fun o ho=>⟨by have:=(h3 o ho).1;omega,(h3 o ho).2⟩⟩,hτ⟩
 have hl3:(bytesA (a::x::y::rest)).length=rest.length+3:=by simp
 have ht:((bytesA (a::x::y::rest)).take 3).drop 1=bytesA [x,y]:=rfl
 have hdr:(bytesA (a::x::y::rest)).drop 3=bytesA rest:=rfl
 have htl:(bytesA (a::x::y::rest)).take (rest.length+3)=bytesA (a::x::y::rest):=by rw[←hl3,List.take_length]
 have h3:¬(rest.length:Int)+3<3:=by omega
 generalize bytesA (a::x::y::rest)=B at*
 refine aw st62 pl62 32 Tryz.func62 rfl ?_
 simp[hl3,h3,ht]
 refine callK.eq (hd _) ?_
 simp[hl3,hdr,htl]
 refine callK.of (hr _) fun v τ hR=> ?_
 obtain ⟨⟨l,k,hv,hl,hkk⟩,hτ⟩:=hR
 simp[hv,hτ]
 exact ⟨_,AV.le_refl _,l,rfl,hl,hkk⟩
def kinds5 (k:Nat):Prop:=k=0∨k=8∨k=40∨k=29∨k=41
@[simp] def st35x:List Nat:=[23,45,56,62,71,85,86,5000011,4000033,4000037,4000053,4000064,4000074,4000082]
theorem rbuffer_calls (ow:Bool) {p:List UInt8} {os:List Op} {n:Nat} (h:BufIn p os n) (hk:∀o∈os,kinds5 o.kind) (σ:Store):
  ACalls Tryz.prog 35 [.list ow 1 (bytesA p)] σ fun v σ'=>(∃l:List AV,v= .tuple [.list true 6 l, .lit (.int .i64 n), .lit (.int .i64 0)])∧σ'=σ:=by
 have hpc:=fun σ=>rpieces_calls false h (fun o ho=>by rcases hk o ho with h|h|h|h|h<;>omega) σ
 refine aw st35x pl35 87 Tryz.func35 rfl ?_
 simp
 refine callK.of (hpc _) fun v τ hR=> ?_
 obtain ⟨⟨l,hv,hll,hlk,hlt⟩,hτ⟩:=hR
 have hkl:∀o∈l,kinds5 o.kind:=fun o ho=>by
  have:o.kind∈os.map (·.kind):=by rw[←hlk];exact List.mem_map_of_mem ho
  obtain ⟨o2,h1,h2⟩:=List.mem_map.1 this
  rw[←h2];exact hk o2 h1
 have hoL:(opsA l).length=l.length:=by simp
 clear hpc hlk h hk
 simp[hv,hτ,hoL]
 clear hv hτ v τ
 intro p9 hp9
 have hRl:∀k,(l.take k).length*(1+100000)≤100000*100001:=fun k=>Nat.mul_le_mul (by rw[List.length_take];omega) (by omega)
 refine codeK.loop follows (st:=st35x) (plans:=pl35) (X:=Nat×List Cell×Cell) (fun x=>x.1≤l.length∧x.2.1.length≤x.1*100001)
  (fun x=>[(5, .lit (.int .i64 n)),(8, .list true 6 (cellsA x.2.1)),(9,ptrA p9),(25, .list false 7 (opsA l)),(26, .lit (.int .i64 l.length)),(27, .lit (.int .i64 x.1))])
  (fun x=>σ.upd p9 (cellC x.2.2)) (fun x=>l.length-x.1) (0,[], .zero) (by kernel_rfl) (by simp) (by simp[cellsA]) (Store.sub_refl _) fun x hx=> ?_
 obtain ⟨i,cs,now⟩:=x
 obtain ⟨hi,hcs⟩:=hx
 dsimp only at hi hcs⊢
 by_cases hlt2:i<l.length
 ·have hw:IntKind.i64.wrap ((i:Int)+1)=((i+1:Nat):Int):=wrap_i64 (by omega) (by omega)
  have hg:=opsA_get l i hlt2
  have hk:=hkl _ (List.getElem_mem hlt2)
  have hx:=hlt _ (List.getElem_mem hlt2)
  rw[opA_eq] at hg
  have hcb:cs.length≤10000100000:=by
   have:i*100001≤100000*100001:=Nat.mul_le_mul_right _ (by omega)
   omega
  have hnx:∀m,m≤cs.length+100001→m≤(i+1)*100001:=fun m hm=>by rw[Nat.add_mul];omega
  generalize l[i]=op at*
  obtain ⟨kind,addr,code,graph,fa,pairs,text⟩:=op
  dsimp only at hk hx hg
  clear hkl hlt hRl
  rw[cellC_eq now]
  rcases hk with rfl|rfl|rfl|rfl|rfl
  ·skip
   simp[hlt2,hoL,hg]
   intro p11 hp11
   simp only[ite_none] at hp11
   obtain ⟨n11,hp11⟩:=hp11
   rw[del_upd_new (by simp[n11,hp11])]
   simp[Ne.symm n11]
   intro p12 hp12
   simp only[ite_none] at hp12
   obtain ⟨n12,hp12⟩:=hp12
   have m12:=Ne.symm n12
   obtain ⟨Rw,hRw⟩:∃f:Nat→List AV,∀j,f j=cellsA (cs++(text.take j).map fun b=> {now with char:=b}):=⟨_,fun _=>rfl⟩
   have hR0:cellsA cs=Rw 0:=by rw[hRw];simp
   have hRn:Rw text.length=cellsA (cs++text.map fun b=> {now with char:=b}):=by rw[hRw,List.take_length]
   have hRl:∀j,(Rw j).length≤10000200000:=fun j=>by
    rw[hRw,cellsA_length,List.length_append,List.length_map,List.length_take];omega
   have hRs:∀j (hj:j<text.length),Rw (j+1)=Rw j++[.agg [byteA text[j], .lit (.bool now.attr),byteA now.fa,byteA now.high,byteA now.color,byteA now.set]]:=fun j hj=>by
    rw[hRw,hRw,List.take_succ_eq_append_getElem hj,List.map_append,←List.append_assoc,cellsA_app];rfl
   clear hRw
   refine codeK.loop follows (st:=st35x) (plans:=pl35) (X:=Nat×UInt8) (fun x=>x.1≤text.length)
    (fun x=>[(5, .lit (.int .i64 n)),(8, .list true 6 (Rw x.1)),(9,ptrA p9),(12,ptrA p12),(25, .list false 7 (opsA l)),(26, .lit (.int .i64 l.length)),(27, .lit (.int .i64 i)),(37, .list false 1 (bytesA text)),(38, .lit (.int .i64 text.length)),(39, .lit (.int .i64 x.1))])
    (fun x=>(σ.upd p9 (cellC now)).upd p12 (cellC {now with char:=x.2})) (fun x=>text.length-x.1) (0,now.char) (by kernel_rfl) (by simp) (by simp[hR0]) (by simp only[cellC_eq];exact Store.sub_refl _) fun x hx2=> ?_
   obtain ⟨j,ch⟩:=x
   dsimp only at hx2⊢
   by_cases hj:j<text.length
   ·have hwj:IntKind.i64.wrap ((j:Int)+1)=((j+1:Nat):Int):=wrap_i64 (by omega) (by omega)
    have hgt:(bytesA text)[j]'(by simpa using hj)=byteA text[j]:=by simp[bytesA]
    have hrow:=hRs j hj
    have hrl:=hRl j
    generalize hR1:Rw (j+1)=R1 at hrow
    generalize Rw j=R0 at*
    generalize hcj:text[j]=cj at*
    rw[cellC_eq now,cellC_eq {now with char:=ch}]
    simp[hj,hgt,n12,m12]
    refine ⟨by omega,by omega,j+1,by omega,by omega,⟨?_,by rw[hwj];exact AV.le_refl _⟩,cj, ?_⟩
    ·rw[hR1,hrow];exact AV.le_refl _
    ·simp only[cellC_eq];(intro q;simp only[Store.upd,Store.del];(repeat' split)<;>first|exact Or.inr rfl|exact Or.inl rfl|(exfalso;omega)|(left;subst_vars;assumption)|simp_all)
   ·obtain rfl:j=text.length:=by omega
    rw[cellC_eq now,cellC_eq {now with char:=ch},hRn]
    simp
    refine ⟨i+1,cs++text.map (fun b=> {now with char:=b}),⟨by omega,hnx _ (by simp;omega)⟩,by omega,⟨AV.le_refl _,by rw[hw];exact AV.le_refl _⟩,now, ?_⟩
    simp only[cellC_eq];(intro q;simp only[Store.upd,Store.del];(repeat' split)<;>first|exact Or.inr rfl|exact Or.inl rfl|(exfalso;omega)|(left;subst_vars;assumption)|simp_all)
  ·skip
   simp[hlt2,hoL,hg]
   intro p11 hp11
   simp only[ite_none] at hp11
   obtain ⟨n11,hp11⟩:=hp11
   rw[del_upd_new (by simp[n11,hp11])]
   simp[Ne.symm n11]
   intro p12 hp12
   simp only[ite_none] at hp12
   obtain ⟨n12,hp12⟩:=hp12
   have m12:=Ne.symm n12
   refine ⟨by omega,by omega,i+1,cs++[{now with char:=code,set:=0xf1}],⟨by omega,hnx _ (by simp)⟩,by omega,⟨?_,by rw[hw];exact AV.le_refl _⟩,now, ?_⟩
   ·rw[cellsA_app];exact AV.le_refl _
   ·simp only[cellC_eq];(intro q;simp only[Store.upd,Store.del];(repeat' split)<;>first|exact Or.inr rfl|exact Or.inl rfl|(exfalso;omega)|(left;subst_vars;assumption)|simp_all)
  ·skip
   have hap:=fun τ=>rapplied_calls false now pairs (by omega) τ
   rw[cellA_eq] at hap
   simp[hlt2,hoL,hg]
   intro p11 hp11
   simp only[ite_none] at hp11
   obtain ⟨n11,hp11⟩:=hp11
   rw[del_upd_new (by simp[n11,hp11])]
   simp[Ne.symm n11]
   intro p12 hp12
   simp only[ite_none] at hp12
   obtain ⟨n12,hp12⟩:=hp12
   have m12:=Ne.symm n12
   refine callK.of (hap _) fun v τ hR=> ?_
   obtain ⟨⟨d,hv⟩,hτ⟩:=hR
   rw[cellA_eq] at hv
   simp[hv,hτ,n12,m12]
   refine ⟨i+1,cs,⟨by omega,hnx _ (by omega)⟩,by omega,⟨AV.le_refl _,by rw[hw];exact AV.le_refl _⟩,d, ?_⟩
   simp only[cellC_eq];(intro q;simp only[Store.upd,Store.del];(repeat' split)<;>first|exact Or.inr rfl|exact Or.inl rfl|(exfalso;omega)|(left;subst_vars;assumption)|simp_all)
  ·skip
   have h6:=rsix_calls fa
   simp[hlt2,hoL,hg]
   intro p11 hp11
   simp only[ite_none] at hp11
   obtain ⟨n11,hp11⟩:=hp11
   rw[del_upd_new (by simp[n11,hp11])]
   simp[Ne.symm n11]
   intro p12 hp12
   simp only[ite_none] at hp12
   obtain ⟨n12,hp12⟩:=hp12
   have m12:=Ne.symm n12
   refine callK.eq (h6 _) ?_
   simp
   refine ⟨by omega,by omega,i+1,cs++[{attr:=true,fa:=Sp.six fa}],⟨by omega,hnx _ (by simp)⟩,by omega,⟨?_,by rw[hw];exact AV.le_refl _⟩,now, ?_⟩
   ·rw[cellsA_app];exact AV.le_refl _
   ·simp only[cellC_eq];(intro q;simp only[Store.upd,Store.del];(repeat' split)<;>first|exact Or.inr rfl|exact Or.inl rfl|(exfalso;omega)|(left;subst_vars;assumption)|simp_all)
  ·skip
   have hap:=fun τ=>rapplied_calls false {attr:=true} pairs (by omega) τ
   have ez:cellA {attr:=true} = .agg [.lit (.int .u8 0), .lit (.bool true), .lit (.int .u8 0), .lit (.int .u8 0), .lit (.int .u8 0), .lit (.int .u8 0)]:=rfl
   rw[ez] at hap
   simp[hlt2,hoL,hg]
   intro p11 hp11
   simp only[ite_none] at hp11
   obtain ⟨n11,hp11⟩:=hp11
   rw[del_upd_new (by simp[n11,hp11])]
   simp[Ne.symm n11]
   intro p12 hp12
   simp only[ite_none] at hp12
   obtain ⟨n12,hp12⟩:=hp12
   have m12:=Ne.symm n12
   refine callK.of (hap _) fun v τ hR=> ?_
   obtain ⟨⟨d,hv⟩,hτ⟩:=hR
   rw[cellA_eq] at hv
   simp[hv,hτ]
   refine ⟨by omega,by omega,i+1,cs++[d],⟨by omega,hnx _ (by simp)⟩,by omega,⟨?_,by rw[hw];exact AV.le_refl _⟩,now, ?_⟩
   ·rw[cellsA_app];exact AV.le_refl _
   ·simp only[cellC_eq];(intro q;simp only[Store.upd,Store.del];(repeat' split)<;>first|exact Or.inr rfl|exact Or.inl rfl|(exfalso;omega)|(left;subst_vars;assumption)|simp_all)
 ·obtain rfl:i=l.length:=by omega
  simp
  exact ⟨_,AV.le_refl _,by (intro q;simp only[Store.upd,Store.del];(repeat' split)<;>first|exact Or.inr rfl|exact Or.inl rfl|(exfalso;omega)|(left;subst_vars;assumption)|simp_all),_,rfl⟩
def replB (alt:Bool) (n:Nat) (body:List UInt8):List UInt8:=(if alt=true then 0x7e else 0xf5)::0x40::(body++(17::(encM n++[19])))
theorem ereplay_calls (ow alt:Bool) {p:List UInt8} {os:List Op} {n:Nat} (h:BufIn p os n) (hn:n<4096) (σ:Store):
  ACalls Tryz.prog 9 [.list ow 1 (bytesA p), .lit (.bool alt)] σ fun v σ'=>v= .tuple [.list true 1 (bytesA (replB alt n (p.drop 3))), .lit (.int .i64 0)]∧σ'=σ:=by
 have hb:=fun σ=>ebuffer_calls false h σ
 obtain ⟨hlong,⟨a,x,y,rest,rfl,hdec,hall⟩,hfine,htx⟩:=h
 have hrl:rest.length≤100000:=by simp at hlong;omega
 have hc:=fun σ=>clone_calls false rest σ (by omega)
 have he:=fun σ=>enc_calls (n:Int) σ
 have her:encR (n:Int)=[.list true 1 (bytesA (encM n)), .lit (.int .i64 0)]:=by rw[encR,if_pos ⟨by omega,by omega⟩];rfl
 rw[her] at he
 have hl3:(bytesA (a::x::y::rest)).length=rest.length+3:=by simp
 have hdr:(bytesA (a::x::y::rest)).drop 3=bytesA rest:=rfl
 have htl:(bytesA (a::x::y::rest)).take (rest.length+3)=bytesA (a::x::y::rest):=by rw[←hl3,List.take_length]
 have hd3:(a::x::y::rest).drop 3=rest:=rfl
 have hel:(encM n).length=2:=rfl
 have hres:bytesA (replB alt n rest)=[if alt=true then .lit (.int .u8 126) else .lit (.int .u8 245), .lit (.int .u8 64)]++(bytesA rest++([.lit (.int .u8 17)]++(bytesA (encM n)++[.lit (.int .u8 19)]))):=by
  unfold replB
  cases alt<;>simp[bytesA,byteA]
 rw[hd3,hres]
 have hbl:(bytesA (encM n)).length=2:=rfl
 generalize bytesA (a::x::y::rest)=B at*
 generalize bytesA (encM n)=EN at*
 generalize (os.foldl bufT ([], .zero)).1=CS at*
 refine aw st9 pl9 43 Tryz.func9 rfl ?_
 simp
 refine callK.eq (hb _) ?_
 cases alt
 ·simp
  refine callK.eq (he _) ?_
  simp[hl3,htl,hdr]
  refine callK.eq (hc _) ?_
  simp[hbl]
  omega
 ·simp
  refine callK.eq (he _) ?_
  simp[hl3,htl,hdr]
  refine callK.eq (hc _) ?_
  simp[hbl]
  omega
@[simp] def st10x:List Nat:=[1000028,1000010,1000035,1000037,1000040,1000042,3000004]
theorem rreplay_calls (ow alt:Bool) {p:List UInt8} {os:List Op} {n:Nat} (h:BufIn p os n) (hk:∀o∈os,kinds5 o.kind) (hn:n<4096) (h3:3<p.length) (σ:Store):
  ACalls Tryz.prog 10 [.list ow 1 (bytesA p), .lit (.bool alt)] σ fun v σ'=>v= .tuple [.list true 1 (bytesA (replB alt n (p.drop 3))), .lit (.int .i64 0)]∧σ'=σ:=by
 have hb:=fun σ=>rbuffer_calls false h hk σ
 obtain ⟨hlong,⟨a,x,y,rest,rfl,hdec,hall⟩,hfine,htx⟩:=h
 have hrl:rest.length≤100000:=by simp at hlong;omega
 have he:=fun σ=>enc4_calls (n:Int) σ
 have her:encR (n:Int)=[.list true 1 (bytesA (encM n)), .lit (.int .i64 0)]:=by rw[encR,if_pos ⟨by omega,by omega⟩];rfl
 rw[her] at he
 have hl3:(bytesA (a::x::y::rest)).length=rest.length+3:=by simp
 have hdr:(bytesA (a::x::y::rest)).drop 3=bytesA rest:=rfl
 have htl:(bytesA (a::x::y::rest)).take (rest.length+3)=bytesA (a::x::y::rest):=by rw[←hl3,List.take_length]
 have hd3:(a::x::y::rest).drop 3=rest:=rfl
 have hel:(encM n).length=2:=rfl
 have hres:bytesA (replB alt n rest)=[if alt=true then .lit (.int .u8 126) else .lit (.int .u8 245), .lit (.int .u8 64)]++(bytesA rest++([.lit (.int .u8 17)]++(bytesA (encM n)++[.lit (.int .u8 19)]))):=by
  unfold replB
  cases alt<;>simp[bytesA,byteA]
 rw[hd3,hres]
 have hbl:(bytesA (encM n)).length=2:=rfl
 generalize bytesA (a::x::y::rest)=B at*
 refine aw st10x pl10 43 Tryz.func10 rfl ?_
 simp
 refine callK.of (hb _) fun v τ hR=> ?_
 obtain ⟨⟨l,hv⟩,hτ⟩:=hR
 have hrpos:0<rest.length:=by simp at h3;omega
 have hbp:(bytesA rest).length=rest.length:=by simp
 have hpl:∀v∈bytesA rest,v.cells=[v]:=fun v hv=>by
  obtain ⟨b,_,rfl⟩:=List.mem_map.1 hv;rfl
 have hfl:List.flatMap AV.cells (bytesA rest)=bytesA rest:=flat_bytesA rest
 have hd1:(bytesA rest).map AV.drop1=bytesA rest:=drop1_bytesA rest
 have hfe:List.flatMap AV.cells (bytesA (encM n))=bytesA (encM n):=flat_bytesA _
 have hde:(bytesA (encM n)).map AV.drop1=bytesA (encM n):=drop1_bytesA _
 have hpe:∀v∈bytesA (encM n),v.cells=[v]:=fun v hv=>by
  obtain ⟨b,_,rfl⟩:=List.mem_map.1 hv;rfl
 generalize bytesA (encM n)=EN at*
 cases alt
 ·simp[hv,hτ]
  refine callK.eq (he _) ?_
  simp[hl3,htl,hdr,hbl]
  generalize bytesA rest=R at*
  generalize rest.length=N at*
  have hne:¬N=0:=by omega
  intro p1 hp1
  simp[flat,hfl,hd1,hbp,hrpos,hne]
  refine ⟨by omega,by omega, ?_⟩
  intro p2 cap2 hp2 hc2 hm2
  have q1:N+(cap2-(2+N))+1+1=cap2:=by omega
  have q2:∀(x y:AV) T,List.take (2+N) (x::y::(R++T))=x::y::R:=fun x y T=>by
   rw[Nat.add_comm,List.take_succ_cons,List.take_succ_cons,List.take_append_of_le_length (by omega),List.take_of_length_le (by omega)]
  simp[hfl,hd1,hbp,q1,q2,hc2,hm2]
  refine ⟨by omega,by omega, ?_⟩
  intro p3 cap3 hp3 hc3 hm3
  have q3:N+(1+(cap3-(2+N+1)))+1+1=cap3:=by omega
  have q4:∀(y z:AV) T,List.take (2+N) (y::(R++(z::T)))=y::(R++[z]):=fun y z T=>by
   have e1:2+N=N+1+1:=by omega
   have e2:N+1=(R++[z]).length:=by rw[List.length_append,hbp];rfl
   have e3:R++(z::T)=(R++[z])++T:=by simp
   rw[e1,List.take_succ_cons,e2,e3,List.take_append_of_le_length (Nat.le_refl _),List.take_length]
  simp[flat,hfe,hde,hbp,hbl,q3,q4,hc3,hm3]
  refine ⟨by omega,by omega, ?_⟩
  intro p4 cap4 hp4 hc4 hm4
  have q5:N+(2+(cap4-(2+N+1+2))+1)+1+1=cap4:=by omega
  have q6:∀(z:AV) T,List.take (2+N+1) (R++z::(EN++T))=R++z::EN:=fun z T=>by
   have e2:2+N+1=(R++z::EN).length:=by rw[List.length_append,List.length_cons,hbp,hbl];omega
   have e3:R++z::(EN++T)=(R++z::EN)++T:=by simp
   rw[e2,e3,List.take_append_of_le_length (Nat.le_refl _),List.take_length]
  simp[flat,hbp,hbl,q5,q6,hc4,hm4]
  refine ⟨by omega,by omega, ?_⟩
  intro p5 cap5 hp5 hc5 hm5
  have q7:∀(z w:AV) T,List.take (2+N+2) (R++z::(EN++w::T))=R++z::(EN++[w]):=fun z w T=>by
   have e2:2+N+2=(R++z::(EN++[w])).length:=by simp[hbp,hbl];omega
   have e3:R++z::(EN++w::T)=(R++z::(EN++[w]))++T:=by simp
   rw[e2,e3,List.take_append_of_le_length (Nat.le_refl _),List.take_length]
  have s2:σ p2=none:=by
   rcases hp2 with rfl|h
   ·exact hp1
   ·by_cases e1:p2=p1
    ·rw[e1];exact hp1
    ·simpa[e1] using h
  have s3:σ p3=none:=by
   rcases hp3 with rfl|h
   ·exact s2
   ·by_cases e1:p3=p1
    ·rw[e1];exact hp1
    ·by_cases e2:p3=p2
     ·rw[e2];exact s2
     ·simpa[e1,e2] using h
  have s4:σ p4=none:=by
   rcases hp4 with rfl|h
   ·exact s3
   ·by_cases e1:p4=p1
    ·rw[e1];exact hp1
    ·by_cases e2:p4=p2
     ·rw[e2];exact s2
     ·by_cases e3:p4=p3
      ·rw[e3];exact s3
      ·simpa[e1,e2,e3] using h
  have s5:σ p5=none:=by
   rcases hp5 with rfl|h
   ·exact s4
   ·by_cases e1:p5=p1
    ·rw[e1];exact hp1
    ·by_cases e2:p5=p2
     ·rw[e2];exact s2
     ·by_cases e3:p5=p3
      ·rw[e3];exact s3
      ·by_cases e4:p5=p4
       ·rw[e4];exact s4
       ·simpa[e1,e2,e3,e4] using h
  rw[q7,del_upd_new hp1,del_upd_new s2,del_upd_new s3,del_upd_new s4,del_upd_new s5]
  refine ⟨by omega,by omega,by omega, ?_,AV.le_refl _,Store.sub_refl _⟩
  intro v hv
  rw[List.mem_append,List.mem_cons,List.mem_append,List.mem_singleton] at hv
  rcases hv with h|rfl|h|rfl
  ·exact hpl v h
  ·rfl
  ·exact hpe v h
  ·rfl
 ·simp[hv,hτ]
  refine callK.eq (he _) ?_
  simp[hl3,htl,hdr,hbl]
  generalize bytesA rest=R at*
  generalize rest.length=N at*
  have hne:¬N=0:=by omega
  intro p1 hp1
  simp[flat,hfl,hd1,hbp,hrpos,hne]
  refine ⟨by omega,by omega, ?_⟩
  intro p2 cap2 hp2 hc2 hm2
  have q1:N+(cap2-(2+N))+1+1=cap2:=by omega
  have q2:∀(x y:AV) T,List.take (2+N) (x::y::(R++T))=x::y::R:=fun x y T=>by
   rw[Nat.add_comm,List.take_succ_cons,List.take_succ_cons,List.take_append_of_le_length (by omega),List.take_of_length_le (by omega)]
  simp[hfl,hd1,hbp,q1,q2,hc2,hm2]
  refine ⟨by omega,by omega, ?_⟩
  intro p3 cap3 hp3 hc3 hm3
  have q3:N+(1+(cap3-(2+N+1)))+1+1=cap3:=by omega
  have q4:∀(y z:AV) T,List.take (2+N) (y::(R++(z::T)))=y::(R++[z]):=fun y z T=>by
   have e1:2+N=N+1+1:=by omega
   have e2:N+1=(R++[z]).length:=by rw[List.length_append,hbp];rfl
   have e3:R++(z::T)=(R++[z])++T:=by simp
   rw[e1,List.take_succ_cons,e2,e3,List.take_append_of_le_length (Nat.le_refl _),List.take_length]
  simp[flat,hfe,hde,hbp,hbl,q3,q4,hc3,hm3]
  refine ⟨by omega,by omega, ?_⟩
  intro p4 cap4 hp4 hc4 hm4
  have q5:N+(2+(cap4-(2+N+1+2))+1)+1+1=cap4:=by omega
  have q6:∀(z:AV) T,List.take (2+N+1) (R++z::(EN++T))=R++z::EN:=fun z T=>by
   have e2:2+N+1=(R++z::EN).length:=by rw[List.length_append,List.length_cons,hbp,hbl];omega
   have e3:R++z::(EN++T)=(R++z::EN)++T:=by simp
   rw[e2,e3,List.take_append_of_le_length (Nat.le_refl _),List.take_length]
  simp[flat,hbp,hbl,q5,q6,hc4,hm4]
  refine ⟨by omega,by omega, ?_⟩
  intro p5 cap5 hp5 hc5 hm5
  have q7:∀(z w:AV) T,List.take (2+N+2) (R++z::(EN++w::T))=R++z::(EN++[w]):=fun z w T=>by
   have e2:2+N+2=(R++z::(EN++[w])).length:=by simp[hbp,hbl];omega
   have e3:R++z::(EN++w::T)=(R++z::(EN++[w]))++T:=by simp
   rw[e2,e3,List.take_append_of_le_length (Nat.le_refl _),List.take_length]
  have s2:σ p2=none:=by
   rcases hp2 with rfl|h
   ·exact hp1
   ·by_cases e1:p2=p1
    ·rw[e1];exact hp1
    ·simpa[e1] using h
  have s3:σ p3=none:=by
   rcases hp3 with rfl|h
   ·exact s2
   ·by_cases e1:p3=p1
    ·rw[e1];exact hp1
    ·by_cases e2:p3=p2
     ·rw[e2];exact s2
     ·simpa[e1,e2] using h
  have s4:σ p4=none:=by
   rcases hp4 with rfl|h
   ·exact s3
   ·by_cases e1:p4=p1
    ·rw[e1];exact hp1
    ·by_cases e2:p4=p2
     ·rw[e2];exact s2
     ·by_cases e3:p4=p3
      ·rw[e3];exact s3
      ·simpa[e1,e2,e3] using h
  have s5:σ p5=none:=by
   rcases hp5 with rfl|h
   ·exact s4
   ·by_cases e1:p5=p1
    ·rw[e1];exact hp1
    ·by_cases e2:p5=p2
     ·rw[e2];exact s2
     ·by_cases e3:p5=p3
      ·rw[e3];exact s3
      ·by_cases e4:p5=p4
       ·rw[e4];exact s4
       ·simpa[e1,e2,e3,e4] using h
  rw[q7,del_upd_new hp1,del_upd_new s2,del_upd_new s3,del_upd_new s4,del_upd_new s5]
  refine ⟨by omega,by omega,by omega, ?_,AV.le_refl _,Store.sub_refl _⟩
  intro v hv
  rw[List.mem_append,List.mem_cons,List.mem_append,List.mem_singleton] at hv
  rcases hv with h|rfl|h|rfl
  ·exact hpl v h
  ·rfl
  ·exact hpe v h
  ·rfl
end Go.Proofs.YtjnopnpkfhopbaaGreatDoor
