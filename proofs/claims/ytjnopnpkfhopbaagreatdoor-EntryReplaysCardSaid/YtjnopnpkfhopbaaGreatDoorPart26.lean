/-
 Orders, as the document reads them: attributes, addresses.
-/
import Derived.Test.YtjnopnpkfhopbaaGreatDoorPart25
set_option linter.unusedSimpArgs false
set_option linter.unusedVariables false
set_option maxRecDepth 8000
set_option maxHeartbeats 8000000
namespace Go.Proofs.YtjnopnpkfhopbaaGreatDoor
open Go Go.AL Go.Sp
theorem rdec_calls (o:Bool) (l:List UInt8) (σ:Store):ACalls Tryz.prog 92 [.lit (.int .i64 12), .list o 1 (bytesA l)] σ fun v σ'=>v= .tuple [.lit (.int .i64 (adN l)), .lit (.int .i64 (adE l))]∧σ'=σ:=by
 rcases l with _|⟨a,_|⟨b,tl⟩⟩
 ·refine aw st92 pl92 59 Tryz.func92 rfl ?_
  simp[adN,adE]
 ·refine aw st92 pl92 59 Tryz.func92 rfl ?_
  simp[adN,adE]
 ·have ha:=a.toNat_lt
  have hb:=b.toNat_lt
  have hN:adN (a::b::tl)=(decM a b).1:=rfl
  have hE:adE (a::b::tl)=(decM a b).2:=rfl
  by_cases h64:a.toNat<64
  ·have hd:decM a b=(a.toNat*256+b.toNat,0):=by unfold decM;rw[if_pos (by omega)]
   have gl0:0<(bytesA (a::b::tl)).length:=by simp
   have gl1:1<(bytesA (a::b::tl)).length:=by simp
   have gl2:¬(((bytesA (a::b::tl)).length:Int)<2):=by simp;omega
   have e0:(bytesA (a::b::tl))[0]=byteA a:=rfl
   have e1:(bytesA (a::b::tl))[1]=byteA b:=rfl
   have wa:=wrapB a
   have wb:=wrapB b
   have w1:IntKind.i64.wrap (256*(a.toNat:Int))=256*(a.toNat:Int):=wrap_i64 (by omega) (by omega)
   have w2:IntKind.i64.wrap (256*(a.toNat:Int)+(b.toNat:Int))=((a.toNat*256+b.toNat:Nat):Int):=by rw[wrap_i64 (by omega) (by omega)];omega
   have h64':(a.toNat:Int)<64:=by omega
   rw[hN,hE,hd]
   generalize bytesA (a::b::tl)=L at*
   refine aw st92 pl92 59 Tryz.func92 rfl ?_
   simp[gl2,gl0,gl1,e0,e1,byteA,wa,wb,w1,w2,h64,h64']
  ·by_cases h2:a.toNat<128∨192≤a.toNat
   ·have hd:decM a b=(unsix a*64+unsix b,0):=by unfold decM;rw[if_neg (by omega),if_neg (by omega)]
    rw[hN,hE,hd]
    exact rdec_core o a b (bytesA (a::b::tl)) (unsix a) (unsix b) (unsix_lt a) (unsix_lt b) (by simp) (by simp) rfl rfl h64 h2 (runsix_calls a) (runsix_calls b) σ
   ·have hd:decM a b=(0,9):=by unfold decM;rw[if_neg (by omega),if_pos (by omega)]
    have gl0:0<(bytesA (a::b::tl)).length:=by simp
    have gl1:1<(bytesA (a::b::tl)).length:=by simp
    have gl2:¬(((bytesA (a::b::tl)).length:Int)<2):=by simp;omega
    have e0:(bytesA (a::b::tl))[0]=byteA a:=rfl
    have e1:(bytesA (a::b::tl))[1]=byteA b:=rfl
    have wa:=wrapB a
    have wb:=wrapB b
    have w1:IntKind.i64.wrap (256*(a.toNat:Int))=256*(a.toNat:Int):=wrap_i64 (by omega) (by omega)
    have w2:IntKind.i64.wrap (256*(a.toNat:Int)+(b.toNat:Int))=((a.toNat*256+b.toNat:Nat):Int):=by rw[wrap_i64 (by omega) (by omega)];omega
    have h64':¬(a.toNat:Int)<64:=by omega
    have h3:128≤a.toNat:=by omega
    have h3':(128:Int)≤a.toNat:=by omega
    have h4:a.toNat<192:=by omega
    have h4':(a.toNat:Int)<192:=by omega
    rw[hN,hE,hd]
    generalize bytesA (a::b::tl)=L at*
    refine aw st92 pl92 59 Tryz.func92 rfl ?_
    simp[gl2,gl0,gl1,e0,e1,byteA,wa,wb,w1,w2,h64,h64',h3,h3',h4,h4']
def parR (l:List UInt8):List AV:=[.list true 2 (pairsA (attrF l).2), .lit (.int .i64 (attrN l)), .lit (.int .i64 (attrF l).1)]
theorem prsN_append1 (l:List UInt8) (n:Nat):pairsA (prsN l (n+1))=pairsA (prsN l n)++[.agg [byteA (l[1+2*n]?.getD 0),byteA (l[1+2*n+1]?.getD 0)]]:=by
 rw[prsN_succ];simp[pairsA]
theorem prsN_len (l:List UInt8) (n:Nat):(pairsA (prsN l n)).length=n:=by simp[pairsA,prsN]
theorem chkE_okP (x y:UInt8):chkE x y=0↔okP x.toNat y.toNat:=by unfold chkE;split<;>simp[*]
theorem rparse_calls (o:Bool) (l:List UInt8) (hl:l.length≤1000000000) (σ:Store):ACalls Tryz.prog 121 [.list o 1 (bytesA l)] σ fun v σ'=>v= .tuple (parR l)∧σ'=σ:=by
 rcases l with _|⟨c,tl⟩
 ·refine aw st121 pl121 55 Tryz.func121 rfl ?_
  simp[parR,attrN,attrF,bytesA,pairsA]
 have hcl:=c.toNat_lt
 have hc0:∀h:0<(bytesA (c::tl)).length,(bytesA (c::tl))[0]=byteA c:=fun _=>rfl
 have hlen:(bytesA (c::tl)).length=(c::tl).length:=bytesA_length _
 have hpos:0<(c::tl).length:=by simp
 have hF:attrF (c::tl)=if (c::tl).length<1+2*c.toNat then (2,[]) else if allP (prsN (c::tl) c.toNat) then (0,prsN (c::tl) c.toNat) else (10,[]):=rfl
 have hN:attrN (c::tl)=if (attrF (c::tl)).1=0 then 1+2*c.toNat else 0:=rfl
 have hgen:∀k,k<c.toNat→1+2*c.toNat≤(c::tl).length→∃x y,(c::tl)[1+2*k]?=some x∧(c::tl)[1+2*k+1]?=some y:=fun k hk hh=>by
  have h1:1+2*k<(c::tl).length:=by omega
  have h2:1+2*k+1<(c::tl).length:=by omega
  exact ⟨_,_,List.getElem?_eq_getElem h1,List.getElem?_eq_getElem h2⟩
 unfold parR
 rw[hN,hF]
 generalize c::tl=l at*
 have wc:=wrapB c
 have w1:IntKind.i64.wrap ((l.length:Int)-1)=((l.length-1:Nat):Int):=by rw[wrap_i64 (by omega) (by omega)];omega
 have w2:IntKind.i64.wrap (2*(c.toNat:Int))=2*(c.toNat:Int):=wrap_i64 (by omega) (by omega)
 refine aw st121 pl121 55 Tryz.func121 rfl ?_
 by_cases hsh:l.length<1+2*c.toNat
 ·have hlt:l.length-1<2*c.toNat:=by omega
  have hlt':(((l.length-1:Nat):Int)<2*(c.toNat:Int)):=by omega
  have hne:¬(l.length:Int)=0:=by omega
  simp[hne,hc0,hpos,byteA_lit,wc,w1,w2,hlt',hsh,pairsA,show l≠[] from fun e=>by subst e;simp at hpos]
 ·have hlt':¬(((l.length-1:Nat):Int)<2*(c.toNat:Int)):=by omega
  have hne:¬(l.length:Int)=0:=by omega
  have hnil:l≠[]:=fun e=>by subst e;simp at hpos
  simp[hne,hc0,hpos,byteA_lit,wc,w1,w2,hlt',hnil,hsh]
  refine codeK.loop follows (st:=st121) (plans:=pl121) (X:=Nat) (fun i=>i≤c.toNat∧∀j,j<i→chkE (l[1+2*j]?.getD 0) (l[1+2*j+1]?.getD 0)=0)
   (fun i=>[(0, .list o 1 (bytesA l)),(5, .list true 2 (pairsA (prsN l i))),(6, .lit (.int .i64 i))]) (fun _=>σ) (fun i=>c.toNat-i) 0 (by kernel_rfl) (by simp) (by simp[prsN,pairsA]) (Store.sub_refl _) fun i hi=> ?_
  obtain ⟨hi,hk⟩:=hi
  have hpl:=prsN_len l i
  by_cases hlt:i<c.toNat
  ·have hw:IntKind.i64.wrap ((i:Int)+1)=((i+1:Nat):Int):=wrap_i64 (by omega) (by omega)
   have u1:IntKind.i64.wrap (2*(i:Int))=((2*i:Nat):Int):=by rw[wrap_i64 (by omega) (by omega)];omega
   have u2:IntKind.i64.wrap (1+((2*i:Nat):Int))=((1+2*i:Nat):Int):=by rw[wrap_i64 (by omega) (by omega)];omega
   have u3:IntKind.i64.wrap (2+((2*i:Nat):Int))=((1+2*i+1:Nat):Int):=by rw[wrap_i64 (by omega) (by omega)];omega
   obtain ⟨x,y,hx,hy⟩:=hgen i hlt (by omega)
   have g1:(bytesA l)[1+2*i]?=some (byteA x):=by rw[bytesA_get,hx];rfl
   have g2:(bytesA l)[1+2*i+1]?=some (byteA y):=by rw[bytesA_get,hy];rfl
   have g3:(((1+2*i+1:Nat):Int)).toNat=1+2*i+1:=rfl
   have g4:(((1+2*i:Nat):Int)).toNat=1+2*i:=rfl
   have hsu:=prsN_append1 l i
   rw[hx,hy] at hsu
   simp only[Option.getD_some] at hsu
   have hr:=fun τ=>right_calls x y τ
   have hck:=chkE_okP x y
   have hne2:¬allP (prsN l c.toNat)∨okP x.toNat y.toNat:=by
    by_cases h:okP x.toNat y.toNat
    ·exact .inr h
    ·refine .inl fun ha=>h (hck.1 ?_)
     have:=ha (x,y) (by
      unfold prsN
      rw[List.mem_map]
      exact ⟨i,List.mem_range.2 hlt,by rw[hx,hy];rfl⟩)
     exact this
   have hstep:okP x.toNat y.toNat→∀j,j<i+1→chkE (l[1+2*j]?.getD 0) (l[1+2*j+1]?.getD 0)=0:=fun h j hj=>by
    by_cases e:j=i
    ·subst e;rw[hx,hy];exact hck.2 h
    ·exact hk j (by omega)
   have hlt':(i:Int)<c.toNat:=by omega
   generalize 1+2*i+1=I2 at*
   generalize 1+2*i=I1 at*
   generalize 2*i=I0 at*
   simp only[byteA_lit] at hr hsu
   simp[hlt,hlt',hc0,hpos,byteA_lit,wc,u1,u2,u3,g1,g2]
   intro p hp
   refine callK.of (hr _) ?_
   rintro v σ' ⟨rfl,rfl⟩
   by_cases h:okP x.toNat y.toNat
   ·simp[h]
    refine ⟨by omega,by omega,i+1,⟨by omega,hstep h⟩,by omega,⟨?_, ?_⟩, ?_⟩
    ·rw[hsu];exact AV.le_refl _
    ·rw[hw];exact AV.le_refl _
    ·exact sub_upd_self _ _ _ hp
   ·have hno:¬allP (prsN l c.toNat):=hne2.resolve_right h
    simp[h,hno,pairsA]
    exact sub_upd_self _ _ _ hp
  ·obtain rfl:i=c.toNat:=by omega
   have ha:allP (prsN l c.toNat):=fun z hz=>by
    unfold prsN at hz
    rw[List.mem_map] at hz
    obtain ⟨j,hj,rfl⟩:=hz
    exact hk j (List.mem_range.1 hj)
   have w3:IntKind.i64.wrap (1+2*(c.toNat:Int))=1+2*(c.toNat:Int):=wrap_i64 (by omega) (by omega)
   simp[hc0,hpos,byteA_lit,wc,hpl,w2,w3,ha]
def adr (q:List UInt8):List UInt8:=17::64::64::q
def NextR (l:List UInt8) (σ:Store) (v:AV) (σ':Store):Prop:=∃(op:Op) (n e:Nat),v= .tuple [opA op, .lit (.int .i64 n), .lit (.int .i64 e)]∧σ'=σ∧n≤l.length∧
 (e=0→(opF l).1=0∧op.kind=(opF l).2.1.kind∧(opF l).2.2=l.drop n)∧((opF l).1=0→(opF l).2.1.kind=17∨(opF l).2.1.kind=18∨(opF l).2.1.kind=60∨e=0)∧op.text.length≤l.length∧op.pairs.length≤1000
theorem next_fin {l:List UInt8} {σ ρ:Store} {v:AV} (op:Op) (n e:Nat) (hle:v.le (.tuple [opA op, .lit (.int .i64 n), .lit (.int .i64 e)])) (hs:Store.sub σ ρ) (hn:n≤l.length)
  (he:e=0→(opF l).1=0∧op.kind=(opF l).2.1.kind∧(opF l).2.2=l.drop n) (hb:(opF l).1=0→(opF l).2.1.kind=17∨(opF l).2.1.kind=18∨(opF l).2.1.kind=60∨e=0:=by first|exact fun _=> .inr (.inr (.inr rfl))|exact fun h=> .inr (.inr (.inr h)))
  (ht:op.text.length≤l.length∧op.pairs.length≤1000:=by first|exact ⟨Nat.zero_le _,Nat.le_of_ble_eq_true rfl⟩|exact ⟨Nat.zero_le _,Nat.le_trans (attrF_length _) (Nat.le_of_ble_eq_true rfl)⟩|exact ⟨(List.takeWhile_sublist _).length_le,Nat.zero_le _⟩):∃v',v.le v'∧∃x,Store.sub x ρ∧NextR l σ v' x:=
 ⟨_,hle,σ,hs,op,n,e,rfl,rfl,hn,he,hb,ht⟩
theorem next_bad {l:List UInt8} {σ ρ:Store} {v:AV} (e:Nat) (he:e≠0) (hle:v.le (.tuple [opA {}, .lit (.int .i64 0), .lit (.int .i64 e)])) (hs:Store.sub σ ρ)
  (hb:(opF l).1=0→(opF l).2.1.kind=17∨(opF l).2.1.kind=18∨(opF l).2.1.kind=60:=by first|exact fun _=> .inl rfl|exact fun _=> .inr (.inl rfl)|exact fun _=> .inr (.inr rfl)|(intro h;exfalso;simp[opF_29,opF_8,opF_40,chE,prE,failE] at h;done)|(intro h;exfalso;simp_all[opF_8,opF_40,chE,prE,failE,chkE];done)):∃v',v.le v'∧∃x,Store.sub x ρ∧NextR l σ v' x:=
 next_fin {} 0 e hle hs (Nat.zero_le _) (fun h=>absurd h he) fun h=>(hb h).elim .inl fun h=> .inr (h.elim .inl fun h=> .inr (.inl h))
theorem is16_true {c:UInt8} (h:isOrd c=true) (σ:Store):ACalls Tryz.prog 41 [byteA c] σ fun v σ'=>v= .lit (.bool true)∧σ'=σ:=by
 have:=is16_calls c σ;rwa[h] at this
theorem htake (l:List UInt8):(bytesA l).take l.length=bytesA l:=by rw[←bytesA_length l,List.take_length]
theorem sub2 {σ:Store} {p q:Nat} (hp:σ p=none) (hq:σ q=none) (a b c:List AV):Store.sub σ (((σ.upd p a).upd q b).upd p c):=by
 refine Store.sub2 (fun o=> ?_) (fun i=>by simp)
 by_cases h1:o=p
 ·left;rw[h1];exact hp
 ·by_cases h2:o=q
  ·left;rw[h2];exact hq
  ·right;simp[h1,h2]
theorem attrN_le (l:List UInt8):attrN l≤l.length:=by
 unfold attrN
 split
 ·rename_i h
  rcases l with _|⟨c,tl⟩
  ·simp[attrF] at h
  ·by_cases hl:(c::tl).length<1+2*c.toNat
   ·have:attrF (c::tl)=(2,[]):=if_pos hl
    rw[this] at h;cases h
   ·show 1+2*c.toNat≤_
    omega
 ·omega
theorem rnext_5 (o:Bool) (tl:List UInt8) (σ:Store):ACalls Tryz.prog 110 [.list o 1 (bytesA (5::tl))] σ (NextR (5::tl) σ):=by
 have his:∀τ,ACalls Tryz.prog 41 [.lit (.int .u8 5)] τ fun v σ'=>v= .lit (.bool true)∧σ'=τ:=fun τ=>is16_true (c:=5) (by decide) τ
 have hw:IntKind.i64.wrap 5=5:=by decide
 have hc:bytesA (5::tl)= .lit (.int .u8 5)::bytesA tl:=rfl
 refine aw st110 pl110 161 Tryz.func110 rfl ?_
 simp+contextual [hc,ite_free,hw]
 intro p hp q n1 n2 hq
 refine callK.of (his _) ?_
 rintro v σ' ⟨rfl,rfl⟩
 have hlt:¬((tl.length:Int)+1<1):=by omega
 simp[n1,n2,hlt]
 exact next_fin {kind:=5} 1 0 (by simp[opA,opC,byteA,bytesA,pairsA]) (sub2 hp hq _ _ _) (by simp) fun _=>⟨rfl,rfl,rfl⟩
theorem rnext_19 (o:Bool) (tl:List UInt8) (σ:Store):ACalls Tryz.prog 110 [.list o 1 (bytesA (19::tl))] σ (NextR (19::tl) σ):=by
 have his:∀τ,ACalls Tryz.prog 41 [.lit (.int .u8 19)] τ fun v σ'=>v= .lit (.bool true)∧σ'=τ:=fun τ=>is16_true (c:=19) (by decide) τ
 have hw:IntKind.i64.wrap 19=19:=by decide
 have hc:bytesA (19::tl)= .lit (.int .u8 19)::bytesA tl:=rfl
 refine aw st110 pl110 161 Tryz.func110 rfl ?_
 simp+contextual [hc,ite_free,hw]
 intro p hp q n1 n2 hq
 refine callK.of (his _) ?_
 rintro v σ' ⟨rfl,rfl⟩
 have hlt:¬((tl.length:Int)+1<1):=by omega
 simp[n1,n2,hlt]
 exact next_fin {kind:=19} 1 0 (by simp[opA,opC,byteA,bytesA,pairsA]) (sub2 hp hq _ _ _) (by simp) fun _=>⟨rfl,rfl,rfl⟩
theorem rnext_29 (o:Bool) (tl:List UInt8) (σ:Store):ACalls Tryz.prog 110 [.list o 1 (bytesA (29::tl))] σ (NextR (29::tl) σ):=by
 have his:∀τ,ACalls Tryz.prog 41 [.lit (.int .u8 29)] τ fun v σ'=>v= .lit (.bool true)∧σ'=τ:=fun τ=>is16_true (c:=29) (by decide) τ
 have hw:IntKind.i64.wrap 29=29:=by decide
 rcases tl with _|⟨x,tl⟩
 ·have hc:bytesA [29]=[.lit (.int .u8 29)]:=rfl
  refine aw st110 pl110 161 Tryz.func110 rfl ?_
  simp+contextual [hc,ite_free,hw]
  intro p hp q n1 n2 hq
  refine callK.of (his _) ?_
  rintro v σ' ⟨rfl,rfl⟩
  simp[n1,n2]
  exact next_bad 2 (by decide) (by simp[opA,opC,byteA,bytesA,pairsA]) (sub2 hp hq _ _ _)
 ·have hc:bytesA (29::x::tl)= .lit (.int .u8 29):: .lit (.int .u8 x.toNat)::bytesA tl:=rfl
  refine aw st110 pl110 161 Tryz.func110 rfl ?_
  have hlt:¬((tl.length:Int)+1+1<2):=by omega
  simp+contextual [hc,ite_free,hw]
  intro p hp q n1 n2 hq
  refine callK.of (his _) ?_
  rintro v σ' ⟨rfl,rfl⟩
  simp[n1,n2,hlt]
  exact next_fin {kind:=29,fa:=x} 2 0 (by simp[opA,opC,byteA,bytesA,pairsA]) (sub2 hp hq _ _ _) (by simp) fun _=>⟨rfl,rfl,rfl⟩
theorem rnext_8 (o:Bool) (tl:List UInt8) (σ:Store):ACalls Tryz.prog 110 [.list o 1 (bytesA (8::tl))] σ (NextR (8::tl) σ):=by
 have his:∀τ,ACalls Tryz.prog 41 [.lit (.int .u8 8)] τ fun v σ'=>v= .lit (.bool true)∧σ'=τ:=fun τ=>is16_true (c:=8) (by decide) τ
 have hw:IntKind.i64.wrap 8=8:=by decide
 rcases tl with _|⟨x,tl⟩
 ·have hc:bytesA [8]=[.lit (.int .u8 8)]:=rfl
  refine aw st110 pl110 161 Tryz.func110 rfl ?_
  simp+contextual [hc,ite_free,hw]
  intro p hp q n1 n2 hq
  refine callK.of (his _) ?_
  rintro v σ' ⟨rfl,rfl⟩
  simp[n1,n2]
  exact next_bad 2 (by decide) (by simp[opA,opC,byteA,bytesA,pairsA]) (sub2 hp hq _ _ _)
 ·have hc:bytesA (8::x::tl)= .lit (.int .u8 8):: .lit (.int .u8 x.toNat)::bytesA tl:=rfl
  have hix:∀τ,ACalls Tryz.prog 41 [.lit (.int .u8 x.toNat)] τ fun v σ'=>v= .lit (.bool (isOrd x))∧σ'=τ:=fun τ=>is16_calls x τ
  refine aw st110 pl110 161 Tryz.func110 rfl ?_
  have hlt:¬((tl.length:Int)+1+1<2):=by omega
  simp+contextual [hc,ite_free,hw]
  intro p hp q n1 n2 hq
  refine callK.of (his _) ?_
  rintro v σ' ⟨rfl,rfl⟩
  simp[n1,n2,hlt]
  refine callK.of (hix _) ?_
  rintro v σ' ⟨rfl,rfl⟩
  cases hx:isOrd x
  ·simp[n1,n2]
   exact next_fin {kind:=8,code:=x} 2 0 (by simp[opA,opC,byteA,bytesA,pairsA]) (sub2 hp hq _ _ _) (by simp) fun _=>⟨by rw[opF_8];simp[chE,hx],rfl,rfl⟩
  ·simp[n1,n2]
   exact next_bad 10 (by decide) (by simp[opA,opC,byteA,bytesA,pairsA]) (sub2 hp hq _ _ _)
theorem rnext_17 (o:Bool) (tl:List UInt8) (σ:Store):ACalls Tryz.prog 110 [.list o 1 (bytesA (17::tl))] σ (NextR (17::tl) σ):=by
 have his:∀τ,ACalls Tryz.prog 41 [.lit (.int .u8 17)] τ fun v σ'=>v= .lit (.bool true)∧σ'=τ:=fun τ=>is16_true (c:=17) (by decide) τ
 have hw:IntKind.i64.wrap 17=17:=by decide
 have hc:bytesA (17::tl)= .lit (.int .u8 17)::bytesA tl:=rfl
 have htk:=htake tl
 have hd:=fun τ=>rdec_calls false tl τ
 have hop:opF (17::tl)=(adE tl, {kind:=17,addr:=adN tl},adL tl):=opF_17 tl
 refine aw st110 pl110 161 Tryz.func110 rfl ?_
 simp+contextual [hc,ite_free,hw,htk]
 intro p hp q n1 n2 hq
 refine callK.of (his _) ?_
 rintro v σ' ⟨rfl,rfl⟩
 simp[n1,n2,htk]
 refine callK.of (hd _) ?_
 rintro v σ' ⟨rfl,rfl⟩
 by_cases he:adE tl=0
 ·obtain ⟨x,y,t,rfl⟩:=ad_some he
  have hlt:¬((t.length:Int)+1+1+1<3):=by omega
  simp[n1,n2,he,hlt]
  exact next_fin {kind:=17,addr:=adN (x::y::t)} 3 0 (by simp[opA,opC,byteA,bytesA,pairsA]) (sub2 hp hq _ _ _) (by simp) fun _=>by rw[hop];exact ⟨he,rfl,rfl⟩
 ·simp[n1,n2,he]
  exact next_bad (adE tl) he (by simp[opA,opC,byteA,bytesA,pairsA]) (sub2 hp hq _ _ _)
theorem rnext_18 (o:Bool) (tl:List UInt8) (σ:Store):ACalls Tryz.prog 110 [.list o 1 (bytesA (18::tl))] σ (NextR (18::tl) σ):=by
 have his:∀τ,ACalls Tryz.prog 41 [.lit (.int .u8 18)] τ fun v σ'=>v= .lit (.bool true)∧σ'=τ:=fun τ=>is16_true (c:=18) (by decide) τ
 have hw:IntKind.i64.wrap 18=18:=by decide
 have hc:bytesA (18::tl)= .lit (.int .u8 18)::bytesA tl:=rfl
 have htk:=htake tl
 have hd:=fun τ=>rdec_calls false tl τ
 have hop:opF (18::tl)=(adE tl, {kind:=18,addr:=adN tl},adL tl):=opF_18 tl
 refine aw st110 pl110 161 Tryz.func110 rfl ?_
 simp+contextual [hc,ite_free,hw,htk]
 intro p hp q n1 n2 hq
 refine callK.of (his _) ?_
 rintro v σ' ⟨rfl,rfl⟩
 simp[n1,n2,htk]
 refine callK.of (hd _) ?_
 rintro v σ' ⟨rfl,rfl⟩
 by_cases he:adE tl=0
 ·obtain ⟨x,y,t,rfl⟩:=ad_some he
  have hlt:¬((t.length:Int)+1+1+1<3):=by omega
  simp[n1,n2,he,hlt]
  exact next_fin {kind:=18,addr:=adN (x::y::t)} 3 0 (by simp[opA,opC,byteA,bytesA,pairsA]) (sub2 hp hq _ _ _) (by simp) fun _=>by rw[hop];exact ⟨he,rfl,rfl⟩
 ·simp[n1,n2,he]
  exact next_bad (adE tl) he (by simp[opA,opC,byteA,bytesA,pairsA]) (sub2 hp hq _ _ _)
theorem rnext_40 (o:Bool) (tl:List UInt8) (σ:Store):ACalls Tryz.prog 110 [.list o 1 (bytesA (40::tl))] σ (NextR (40::tl) σ):=by
 have his:∀τ,ACalls Tryz.prog 41 [.lit (.int .u8 40)] τ fun v σ'=>v= .lit (.bool true)∧σ'=τ:=fun τ=>is16_true (c:=40) (by decide) τ
 have hw:IntKind.i64.wrap 40=40:=by decide
 have hop:opF (40::tl)=(prE tl 0, {kind:=40,pairs:=prP tl},prL tl):=opF_40 tl
 rcases tl with _|⟨x,_|⟨y,t⟩⟩
 ·have hc:bytesA [40]=[.lit (.int .u8 40)]:=rfl
  refine aw st110 pl110 161 Tryz.func110 rfl ?_
  simp+contextual [hc,ite_free,hw]
  intro p hp q n1 n2 hq
  refine callK.of (his _) ?_
  rintro v σ' ⟨rfl,rfl⟩
  simp[n1,n2]
  exact next_bad 2 (by decide) (by simp[opA,opC,byteA,bytesA,pairsA]) (sub2 hp hq _ _ _)
 ·have hc:bytesA [40,x]=[.lit (.int .u8 40), .lit (.int .u8 x.toNat)]:=rfl
  refine aw st110 pl110 161 Tryz.func110 rfl ?_
  simp+contextual [hc,ite_free,hw]
  intro p hp q n1 n2 hq
  refine callK.of (his _) ?_
  rintro v σ' ⟨rfl,rfl⟩
  simp[n1,n2]
  exact next_bad 2 (by decide) (by simp[opA,opC,byteA,bytesA,pairsA]) (sub2 hp hq _ _ _)
 ·have hc:bytesA (40::x::y::t)= .lit (.int .u8 40):: .lit (.int .u8 x.toNat):: .lit (.int .u8 y.toNat)::bytesA t:=rfl
  have hr:=fun τ=>right_calls x y τ
  simp only[byteA_lit] at hr
  refine aw st110 pl110 161 Tryz.func110 rfl ?_
  have hlt:¬((t.length:Int)+1+1+1<3):=by omega
  simp+contextual [hc,ite_free,hw]
  intro p hp q n1 n2 hq
  refine callK.of (his _) ?_
  rintro v σ' ⟨rfl,rfl⟩
  simp+contextual [n1,n2,hlt,ite_free]
  intro r m1 m2 m3 m4 hrr
  refine callK.of (hr _) ?_
  rintro v σ' ⟨rfl,rfl⟩
  have hck:=chkE_okP x y
  by_cases h:okP x.toNat y.toNat
  ·simp[h,n1,n2,m1,m2,m3,m4]
   refine next_fin {kind:=40,pairs:=[(x,y)]} 3 0 (by simp[opA,opC,byteA,bytesA,pairsA]) (by (intro q;simp only[Store.upd,Store.del];(repeat' split)<;>first|exact Or.inr rfl|exact Or.inl rfl|(exfalso;omega)|(left;subst_vars;assumption)|simp_all)) (by simp) fun _=> ?_
   rw[hop]
   exact ⟨by simp[prE,hck.2 h],rfl,rfl⟩
  ·simp[h,n1,n2,m1,m2,m3,m4]
   exact next_bad 10 (by decide) (by simp[opA,opC,byteA,bytesA,pairsA]) (by (intro q;simp only[Store.upd,Store.del];(repeat' split)<;>first|exact Or.inr rfl|exact Or.inl rfl|(exfalso;omega)|(left;subst_vars;assumption)|simp_all))
theorem rnext_41 (o:Bool) (tl:List UInt8) (hl:tl.length≤1000000000) (σ:Store):ACalls Tryz.prog 110 [.list o 1 (bytesA (41::tl))] σ (NextR (41::tl) σ):=by
 have his:∀τ,ACalls Tryz.prog 41 [.lit (.int .u8 41)] τ fun v σ'=>v= .lit (.bool true)∧σ'=τ:=fun τ=>is16_true (c:=41) (by decide) τ
 have hw:IntKind.i64.wrap 41=41:=by decide
 have hc:bytesA (41::tl)= .lit (.int .u8 41)::bytesA tl:=rfl
 have htk:=htake tl
 have hd:=fun τ=>rparse_calls false tl hl τ
 unfold parR at hd
 have hop:opF (41::tl)=((attrF tl).1, {kind:=41,pairs:=(attrF tl).2},tl.drop (attrN tl)):=opF_41 tl
 have hn:attrN tl≤tl.length:=attrN_le tl
 have hw2:IntKind.i64.wrap (1+(attrN tl:Int))=((attrN tl+1:Nat):Int):=by rw[wrap_i64 (by omega) (by omega)];omega
 refine aw st110 pl110 161 Tryz.func110 rfl ?_
 simp+contextual [hc,ite_free,hw,htk]
 intro p hp q n1 n2 hq
 refine callK.of (his _) ?_
 rintro v σ' ⟨rfl,rfl⟩
 simp[n1,n2,htk]
 refine callK.of (hd _) ?_
 rintro v σ' ⟨rfl,rfl⟩
 simp[n1,n2,hw2]
 refine next_fin {kind:=41,pairs:=(attrF tl).2} (attrN tl+1) (attrF tl).1 (by simp[opA,opC,byteA,bytesA,pairsA]) (by (intro q;simp only[Store.upd,Store.del];(repeat' split)<;>first|exact Or.inr rfl|exact Or.inl rfl|(exfalso;omega)|(left;subst_vars;assumption)|simp_all)) (by simp;omega) fun h=> ?_
 rw[hop]
 exact ⟨h,rfl,rfl⟩
theorem rnext_44 (o:Bool) (tl:List UInt8) (hl:tl.length≤1000000000) (σ:Store):ACalls Tryz.prog 110 [.list o 1 (bytesA (44::tl))] σ (NextR (44::tl) σ):=by
 have his:∀τ,ACalls Tryz.prog 41 [.lit (.int .u8 44)] τ fun v σ'=>v= .lit (.bool true)∧σ'=τ:=fun τ=>is16_true (c:=44) (by decide) τ
 have hw:IntKind.i64.wrap 44=44:=by decide
 have hc:bytesA (44::tl)= .lit (.int .u8 44)::bytesA tl:=rfl
 have htk:=htake tl
 have hd:=fun τ=>rparse_calls false tl hl τ
 unfold parR at hd
 have hop:opF (44::tl)=((attrF tl).1, {kind:=44,pairs:=(attrF tl).2},tl.drop (attrN tl)):=opF_44 tl
 have hn:attrN tl≤tl.length:=attrN_le tl
 have hw2:IntKind.i64.wrap (1+(attrN tl:Int))=((attrN tl+1:Nat):Int):=by rw[wrap_i64 (by omega) (by omega)];omega
 refine aw st110 pl110 161 Tryz.func110 rfl ?_
 simp+contextual [hc,ite_free,hw,htk]
 intro p hp q n1 n2 hq
 refine callK.of (his _) ?_
 rintro v σ' ⟨rfl,rfl⟩
 simp[n1,n2,htk]
 refine callK.of (hd _) ?_
 rintro v σ' ⟨rfl,rfl⟩
 simp[n1,n2,hw2]
 refine next_fin {kind:=44,pairs:=(attrF tl).2} (attrN tl+1) (attrF tl).1 (by simp[opA,opC,byteA,bytesA,pairsA]) (by (intro q;simp only[Store.upd,Store.del];(repeat' split)<;>first|exact Or.inr rfl|exact Or.inl rfl|(exfalso;omega)|(left;subst_vars;assumption)|simp_all)) (by simp;omega) fun h=> ?_
 rw[hop]
 exact ⟨h,rfl,rfl⟩
theorem rnext_60 (o:Bool) (tl:List UInt8) (σ:Store):ACalls Tryz.prog 110 [.list o 1 (bytesA (60::tl))] σ (NextR (60::tl) σ):=by
 have his:∀τ,ACalls Tryz.prog 41 [.lit (.int .u8 60)] τ fun v σ'=>v= .lit (.bool true)∧σ'=τ:=fun τ=>is16_true (c:=60) (by decide) τ
 have hw:IntKind.i64.wrap 60=60:=by decide
 have hc:bytesA (60::tl)= .lit (.int .u8 60)::bytesA tl:=rfl
 have htk:=htake tl
 have hd:=fun τ=>rdec_calls false tl τ
 have hop:opF (60::tl)=(chE (raL tl) (adE tl), {kind:=60,addr:=adN tl,graph:=raG tl,code:=(raL tl).headD 0},(raL tl).tail):=opF_60 tl
 by_cases he:adE tl=0
 ·obtain ⟨x,y,t,rfl⟩:=ad_some he
  rcases t with _|⟨z,r⟩
  ·refine aw st110 pl110 161 Tryz.func110 rfl ?_
   simp+contextual [hc,ite_free,hw,htk]
   intro p hp q n1 n2 hq
   refine callK.of (his _) ?_
   rintro v σ' ⟨rfl,rfl⟩
   simp[n1,n2]
   simp only[List.length_cons,List.length_nil] at htk
   simp[htk]
   refine callK.of (hd _) ?_
   rintro v σ' ⟨rfl,rfl⟩
   simp[n1,n2,he]
   exact next_bad 2 (by decide) (by simp[opA,opC,byteA,bytesA,pairsA]) (by (intro q;simp only[Store.upd,Store.del];(repeat' split)<;>first|exact Or.inr rfl|exact Or.inl rfl|(exfalso;omega)|(left;subst_vars;assumption)|simp_all))
  ·have g2:∀h:2<(bytesA (x::y::z::r)).length,(bytesA (x::y::z::r))[2]'h= .lit (.int .u8 z.toNat):=fun _=>rfl
   have hz0:bytesA (x::y::z::r)≠[]:=by simp[bytesA]
   have hlen:(bytesA (x::y::z::r)).length=r.length+3:=by simp
   have htk':(bytesA (x::y::z::r)).take (r.length+1+1+1)=bytesA (x::y::z::r):=by have:=htk;simpa using this
   by_cases hz:z=8
   ·subst hz
    have hG:raG (x::y::8::r)=true:=rfl
    have hL:raL (x::y::8::r)=r:=rfl
    rw[hG,hL,he] at hop
    rcases r with _|⟨w,r⟩
    ·refine aw st110 pl110 161 Tryz.func110 rfl ?_
     have g2':∀h:2<(bytesA [x,y,8]).length,(bytesA [x,y,8])[2]'h= .lit (.int .u8 8):=fun _=>rfl
     simp+contextual [hc,ite_free,hw,htk,htk']
     intro p hp q n1 n2 hq
     refine callK.of (his _) ?_
     rintro v σ' ⟨rfl,rfl⟩
     simp only[List.length_nil,Nat.zero_add] at htk'
     simp[n1,n2,htk']
     refine callK.of (hd _) ?_
     rintro v σ' ⟨rfl,rfl⟩
     simp[n1,n2,he,g2']
     exact next_bad 2 (by decide) (by simp[opA,opC,byteA,bytesA,pairsA]) (by (intro q;simp only[Store.upd,Store.del];(repeat' split)<;>first|exact Or.inr rfl|exact Or.inl rfl|(exfalso;omega)|(left;subst_vars;assumption)|simp_all))
    ·have g3:∀h:3<(bytesA (x::y::8::w::r)).length,(bytesA (x::y::8::w::r))[3]'h= .lit (.int .u8 w.toNat):=fun _=>rfl
     have g2':∀h:2<(bytesA (x::y::8::w::r)).length,(bytesA (x::y::8::w::r))[2]'h= .lit (.int .u8 8):=fun _=>rfl
     have hlt:¬((r.length:Int)+1+1+1+1+1<4):=by omega
     have hlt5:¬((r.length:Int)+1+1+1+1+1<5):=by omega
     have hix:∀τ,ACalls Tryz.prog 41 [.lit (.int .u8 w.toNat)] τ fun v σ'=>v= .lit (.bool (isOrd w))∧σ'=τ:=fun τ=>is16_calls w τ
     refine aw st110 pl110 161 Tryz.func110 rfl ?_
     simp+contextual [hc,ite_free,hw,htk,htk']
     intro p hp q n1 n2 hq
     refine callK.of (his _) ?_
     rintro v σ' ⟨rfl,rfl⟩
     simp only[List.length_cons] at htk'
     simp[n1,n2,htk']
     refine callK.of (hd _) ?_
     rintro v σ' ⟨rfl,rfl⟩
     simp[n1,n2,he,g2',g3,hlt,hlt5]
     refine callK.of (hix _) ?_
     rintro v σ' ⟨rfl,rfl⟩
     cases hx:isOrd w
     ·simp[n1,n2]
      refine next_fin {kind:=60,addr:=adN (x::y::8::w::r),code:=w,graph:=true} 5 0 (by simp[opA,opC,byteA,bytesA,pairsA]) (by (intro q;simp only[Store.upd,Store.del];(repeat' split)<;>first|exact Or.inr rfl|exact Or.inl rfl|(exfalso;omega)|(left;subst_vars;assumption)|simp_all)) (by simp) fun _=> ?_
      rw[hop]
      exact ⟨by simp[chE,hx],rfl,rfl⟩
     ·simp[n1,n2]
      exact next_bad 10 (by decide) (by simp[opA,opC,byteA,bytesA,pairsA]) (by (intro q;simp only[Store.upd,Store.del];(repeat' split)<;>first|exact Or.inr rfl|exact Or.inl rfl|(exfalso;omega)|(left;subst_vars;assumption)|simp_all))
   ·have hzi:¬(z.toNat:Int)=8:=fun h=>hz (UInt8.toNat_inj.1 (by have:(8:UInt8).toNat=8:=rfl;omega))
    have hzn:¬z.toNat=8:=by omega
    have hG:raG (x::y::z::r)=false:=by unfold raG;simp[adL,hz]
    have hL:raL (x::y::z::r)=z::r:=by unfold raL;rw[hG];rfl
    rw[hG,hL,he] at hop
    have hlt:¬((r.length:Int)+1+1+1+1<4):=by omega
    have hix:∀τ,ACalls Tryz.prog 41 [.lit (.int .u8 z.toNat)] τ fun v σ'=>v= .lit (.bool (isOrd z))∧σ'=τ:=fun τ=>is16_calls z τ
    refine aw st110 pl110 161 Tryz.func110 rfl ?_
    simp+contextual [hc,ite_free,hw,htk,htk']
    intro p hp q n1 n2 hq
    refine callK.of (his _) ?_
    rintro v σ' ⟨rfl,rfl⟩
    simp[n1,n2,htk']
    refine callK.of (hd _) ?_
    rintro v σ' ⟨rfl,rfl⟩
    simp[n1,n2,he,g2,hlt,hzi,hzn]
    refine callK.of (hix _) ?_
    rintro v σ' ⟨rfl,rfl⟩
    cases hx:isOrd z
    ·simp[n1,n2]
     refine next_fin {kind:=60,addr:=adN (x::y::z::r),code:=z} 4 0 (by simp[opA,opC,byteA,bytesA,pairsA]) (by (intro q;simp only[Store.upd,Store.del];(repeat' split)<;>first|exact Or.inr rfl|exact Or.inl rfl|(exfalso;omega)|(left;subst_vars;assumption)|simp_all)) (by simp) fun _=> ?_
     rw[hop]
     exact ⟨by simp[chE,hx],rfl,rfl⟩
    ·simp[n1,n2]
     exact next_bad 10 (by decide) (by simp[opA,opC,byteA,bytesA,pairsA]) (by (intro q;simp only[Store.upd,Store.del];(repeat' split)<;>first|exact Or.inr rfl|exact Or.inl rfl|(exfalso;omega)|(left;subst_vars;assumption)|simp_all))
 ·refine aw st110 pl110 161 Tryz.func110 rfl ?_
  simp+contextual [hc,ite_free,hw,htk]
  intro p hp q n1 n2 hq
  refine callK.of (his _) ?_
  rintro v σ' ⟨rfl,rfl⟩
  simp[n1,n2,htk]
  refine callK.of (hd _) ?_
  rintro v σ' ⟨rfl,rfl⟩
  simp[n1,n2,he]
  exact next_bad (adE tl) he (by simp[opA,opC,byteA,bytesA,pairsA]) (by (intro q;simp only[Store.upd,Store.del];(repeat' split)<;>first|exact Or.inr rfl|exact Or.inl rfl|(exfalso;omega)|(left;subst_vars;assumption)|simp_all))
theorem begin_good {s:Sp} (h:s.good) (k:Nat) (c:UInt8):(beginS s k c).good:=by
 unfold beginS
 split
 ·split
  ·exact h
  ·exact (unmodS_same h).1
 ·exact Sp.clear_good h.model _
theorem penF_good {s:Sp} (h:s.good) (k:Nat) (l:List UInt8):(penF s k l).1.s.good:=
 (PenOk.ordN _ _ _ ⟨SameN.refl (begin_good h k (ctlOf l)),pen0_lt _ _⟩).same.1
theorem unprot_good {s:Sp} (h:s.good):(unprotS s).good:=by
 unfold unprotS
 split
 ·exact (keep_null h _).same.1.place _
 ·have:=(keep_unprotTo h s.attrs.length).same.1
  unfold unprotTo at this
  rw[List.take_length] at this
  exact this.place _
theorem run_good {s:Sp} (h:s.good) (l:List UInt8):(runS s l).s.good:=by
 rcases l with _|⟨c,l⟩
 ·exact h
 ·show (if (cmdF c).2=true then ranCmd s (cmdF c).1 l else (⟨s,⟨0,false,false,false,0⟩,[],11⟩:Ran)).s.good
  split
  ·unfold ranCmd
   split
   ·exact penF_good h _ _
   ·split
    ·exact unprot_good h
    ·split<;>exact h
  ·exact h
theorem RanR.at {σ σ':Store} {q r:Nat} {s:Sp} {l:List UInt8} {v:AV} (h:Prg σ q r s) (hr:RanR σ q r (runS s l) v σ'):
  v=ranA (runS s l)∧∃r',(r'=r∨σ r'=none)∧σ'=putS spO σ q r' (runS s l).s∧Prg σ' q r' (runS s l).s:=by
 obtain ⟨hv,r',h1,rfl⟩:=hr
 refine ⟨hv,r',h1,rfl,Scr.of_put ?_ (run_good h.good l)⟩
 rcases h1 with e|e
 ·rw[e];exact h.ne
 ·exact (h.fresh e).1
def exW:List UInt8:=[245,195,17,64,64,29,96,193]
def exR:Ran:=runS (Sp.new 2) exW
theorem copy_calls (o:Bool) (l:List UInt8) (σ:Store) (hl:l.length≤140737488355328):
  ACalls Tryz.prog 120 [.list o 1 (bytesA l)] σ fun v σ'=>v= .list true 1 (bytesA l)∧σ'=σ:=by
 refine aw st120 pl120 6 Tryz.func120 rfl ?_
 simp
 omega
theorem alt_calls {q p:Nat} {s:Sp} {σ:Store} (h:Prg σ q p s):ACalls Tryz.prog 16 [ptrA q] σ fun v σ'=>v= .lit (.bool s.alt)∧σ'=σ:=by
 have ho:=h.obj
 unfold spO at ho
 refine aw st16 pl16 11 Tryz.func16 rfl ?_
 simp[ho]
theorem untilO_take (l:List UInt8):l.take (untilO l).length=untilO l∧l.drop (untilO l).length=fromO l:=by
 induction l with
 |nil=>exact ⟨rfl,rfl⟩
 |cons c l ih=>
  unfold untilO fromO at*
  by_cases hc:isOrd c=true
  ·simp[hc]
  ·have hc':isOrd c=false:=by simpa using hc
   simp[hc',ih]
theorem untilO_at:∀(l:List UInt8) (i:Nat),i<(untilO l).length→∃c,l[i]?=some c∧isOrd c=false
 |[],i,h=>by simp[untilO] at h
 |c::l,i,h=>by
  unfold untilO at h
  by_cases hc:isOrd c=true
  ·simp[hc] at h
  ·have hc':isOrd c=false:=by simpa using hc
   simp[hc'] at h
   cases i with
   |zero=>exact ⟨c,rfl,hc'⟩
   |succ i=>exact untilO_at l i (by unfold untilO;omega)
theorem untilO_end:∀(l:List UInt8),(untilO l).length=l.length∨∃c,l[(untilO l).length]?=some c∧isOrd c=true
 |[]=> .inl rfl
 |c::l=>by
  unfold untilO
  by_cases hc:isOrd c=true
  ·right;exact ⟨c,by simp[hc],hc⟩
  ·have hc':isOrd c=false:=by simpa using hc
   simp only[hc',Bool.not_false,List.takeWhile_cons_of_pos,List.length_cons]
   rcases untilO_end l with h|h
   ·left;unfold untilO at h;omega
   ·right;unfold untilO at h;simpa using h
theorem rnext_text (o:Bool) (c:UInt8) (tl:List UInt8) (h:isOrd c=false) (hl:tl.length≤1000000000) (σ:Store):ACalls Tryz.prog 110 [.list o 1 (bytesA (c::tl))] σ (NextR (c::tl) σ):=by
 have hop:=opF_text c tl h
 have his:=fun τ=>is16_calls c τ
 rw[h] at his
 simp only[byteA_lit] at his
 have hc0:∀h:0<(bytesA (c::tl)).length,(bytesA (c::tl))[0]'h=byteA c:=fun _=>rfl
 have hll:(c::tl).length≤1000000001:=by simp;omega
 have hpos:0<(c::tl).length:=by simp
 have hnil:c::tl≠[]:=by simp
 obtain ⟨ht,hdr⟩:=untilO_take (c::tl)
 have hat:=untilO_at (c::tl)
 have hen:=untilO_end (c::tl)
 have hun:(untilO (c::tl)).length≤(c::tl).length:=(List.takeWhile_sublist _).length_le
 generalize c::tl=l at*
 have wc:=wrapB c
 refine aw st110 pl110 161 Tryz.func110 rfl ?_
 simp+contextual [ite_free,hc0,hpos,hnil,byteA_lit,wc]
 intro p hp q n1 n2 hq
 refine callK.of (his _) ?_
 rintro v σ' ⟨rfl,rfl⟩
 simp
 have hρp:((σ.upd p [.lit (.int .i64 0), .lit (.int .i64 0), .lit (.int .u8 0), .lit (.bool false), .lit (.int .u8 0), .list true 2 [], .list true 1 []]).upd q [.lit (.int .i64 c.toNat), .lit (.int .i64 0), .lit (.int .u8 0), .lit (.bool false), .lit (.int .u8 0), .list true 2 [], .list true 1 []]) p=some [.lit (.int .i64 0), .lit (.int .i64 0), .lit (.int .u8 0), .lit (.bool false), .lit (.int .u8 0), .list true 2 [], .list true 1 []]:=by simp[n2]
 have hsub:∀X,Store.sub σ ((((σ.upd p [.lit (.int .i64 0), .lit (.int .i64 0), .lit (.int .u8 0), .lit (.bool false), .lit (.int .u8 0), .list true 2 [], .list true 1 []]).upd q [.lit (.int .i64 c.toNat), .lit (.int .i64 0), .lit (.int .u8 0), .lit (.bool false), .lit (.int .u8 0), .list true 2 [], .list true 1 []])).upd p X):=fun X=>sub2 hp hq _ _ _
 generalize ((σ.upd p _).upd q _)=ρ at*
 refine codeK.loop follows (st:=st110) (plans:=pl110) (X:=Nat) (fun i=>i≤(untilO l).length)
  (fun i=>[(0, .list o 1 (bytesA l)),(2,ptrA p),(6, .lit (.int .i64 i))]) (fun _=>ρ) (fun i=>(untilO l).length-i) 0 (by kernel_rfl) (by simp) (by simp) (Store.sub_refl _) fun i hi=> ?_
 have hdone:i=(untilO l).length→(opF l).1=0∧(txtOp (untilO l)).kind=(opF l).2.1.kind∧(opF l).2.2=l.drop i:=fun e=>by
  rw[hop,e,hdr];exact ⟨rfl,rfl,rfl⟩
 have hcp:=fun τ=>copy_calls false (untilO l) τ (by omega)
 by_cases hlt:i<(untilO l).length
 ·have hw:IntKind.i64.wrap ((i:Int)+1)=((i+1:Nat):Int):=wrap_i64 (by omega) (by omega)
  obtain ⟨d,hd,hdo⟩:=hat i hlt
  have hil:i<l.length:=by omega
  have hg:∀h:i<(bytesA l).length,(bytesA l)[i]'h= .lit (.int .u8 d.toNat):=fun h=>by
   rw[List.getElem_eq_iff,bytesA_get,hd];rfl
  have hid:∀τ,ACalls Tryz.prog 41 [.lit (.int .u8 d.toNat)] τ fun v σ'=>v= .lit (.bool false)∧σ'=τ:=fun τ=>by
   have:=is16_calls d τ;rw[hdo] at this;exact this
  have hil':(i:Int)<l.length:=by omega
  simp[hil,hg]
  refine callK.of (hid _) ?_
  rintro v σ' ⟨rfl,rfl⟩
  simp
  exact ⟨i+1,by omega,by omega,by rw[hw];exact AV.le_refl _⟩
 ·have he:i=(untilO l).length:=by omega
  have hdn:=hdone he
  have hle:i≤l.length:=by omega
  rcases hen with hen|⟨d,hd,hdo⟩
  ·have hnl:¬i<l.length:=by omega
   have htk:(bytesA l).take i=bytesA (untilO l):=by rw[he,bytesA_take,ht]
   simp[hnl,htk,hle]
   refine callK.of (hcp _) ?_
   rintro v σ' ⟨rfl,rfl⟩
   simp[hρp]
   exact next_fin (txtOp (untilO l)) i 0 (by simp[opA,opC,txtOp,byteA,pairsA]) (hsub _) hle fun _=>hdn
  ·have hil:i<l.length:=by rw[he];exact (List.getElem?_eq_some_iff.1 hd).1
   have hg:∀h:i<(bytesA l).length,(bytesA l)[i]'h= .lit (.int .u8 d.toNat):=fun h=>by
    rw[List.getElem_eq_iff,bytesA_get,he,hd];rfl
   have hid:∀τ,ACalls Tryz.prog 41 [.lit (.int .u8 d.toNat)] τ fun v σ'=>v= .lit (.bool true)∧σ'=τ:=fun τ=>by
    have:=is16_calls d τ;rw[hdo] at this;exact this
   have htk:(bytesA l).take i=bytesA (untilO l):=by rw[he,bytesA_take,ht]
   simp[hil,hg]
   refine callK.of (hid _) ?_
   rintro v σ' ⟨rfl,rfl⟩
   simp[htk,hle]
   refine callK.of (hcp _) ?_
   rintro v σ' ⟨rfl,rfl⟩
   simp[hρp]
   exact next_fin (txtOp (untilO l)) i 0 (by simp[opA,opC,txtOp,byteA,pairsA]) (hsub _) hle fun _=>hdn
end Go.Proofs.YtjnopnpkfhopbaaGreatDoor
