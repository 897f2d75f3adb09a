/-
 What is sent of a screen, written again: plainly.
-/
import Derived.Test.YtjnopnpkfhopbaaGreatDoorPart27
set_option linter.unusedSimpArgs false
set_option linter.unusedVariables false
set_option maxRecDepth 8000
set_option maxHeartbeats 8000000
namespace Go.Proofs.YtjnopnpkfhopbaaGreatDoor
open Go Go.AL Go.Sp
def bodyB (s:Sp) (mode:Nat):List UInt8:=atsB (cellsAt mode .zero s.cells)
def opsB (s:Sp) (mode:Nat):List Op:=mergeA (cellsAt mode .zero s.cells)
theorem bufB_eq (s:Sp) (mode:Nat) (aid:UInt8):bufB s mode aid=aid::six (s.cursor/64)::six s.cursor::bodyB s mode:=rfl
theorem bufB_len {s:Sp} (h:s.good) (mode:Nat) (aid:UInt8):(bufB s mode aid).length≤100000:=by
 have h1:=foldl_length (stepB mode) 20 (stepB_len mode) s.cells (headB s aid, .zero)
 rw[foldl_stepB] at h1
 have h2:(headB s aid).length=3:=rfl
 have h3:=h.len
 have h4:=s.n_le
 show (headB s aid++atsB (cellsAt mode .zero s.cells)).length≤_
 dsimp only at h1
 omega
theorem ats_fine {s:Sp} (hl:looksS s) (mode:Nat):∀a∈cellsAt mode .zero s.cells,a.ok:=cellsAt_ok s.cells .zero hl
theorem opsB_all {s:Sp} (hl:looksS s) (mode:Nat):allF (bodyB s mode)=(opsB s mode,0):=by
 have:=(allF_ats [] (.inl rfl) _ (ats_fine hl mode)).1
 rw[List.append_nil,allF_nil,List.append_nil] at this
 exact this
theorem bufIn {s:Sp} (h:s.good) (hl:looksS s) (mode:Nat) (aid:UInt8):BufIn (bufB s mode aid) (opsB s mode) s.cursor:=by
 have hc:s.cursor<4096:=by have:=h.cursor;have:=s.n_le;omega
 refine ⟨bufB_len h mode aid,⟨aid,_,_,bodyB s mode,rfl,dec_enc hc,opsB_all hl mode⟩,mergeA_fine _ (ats_fine hl mode),fun o ho=> ?_⟩
 have h1:=bufB_len h mode aid
 rw[bufB_eq] at h1
 have h2:=allF_ok (l:=bodyB s mode) o (by rw[opsB_all hl];exact ho)
 simp only[List.length_cons] at h1
 exact ⟨by have:=h2.text;omega,by have:=h2.pairs;omega⟩
theorem kinds_fine {s:Sp} (hl:looksS s) (mode:Nat):∀o∈opsB s mode,kinds5 o.kind:=fun o ho=>(mergeA_fine _ (ats_fine hl mode) o ho).1
theorem read_again {s:Sp} (h:s.good) (hl:looksS s) (mode:Nat):((opsB s mode).foldl bufT ([], .zero)).1=s.cells.map (seen mode):=by
 have h0:∀(x:List Cell×Cell) (o:Op),o.kind=0→bufT x o=bufT x (txtOp o.text):=fun x o ho=>by
  unfold bufT txtOp;simp[ho]
 rw[opsB,foldl_merge bufT bufT_text h0]
 exact bufT_cells s.cells .zero [] (fun c hc=>⟨h.fit c hc,hl c hc⟩) (.inr rfl)
def tailB (n:Nat):List UInt8:=17::(encM n++[19])
theorem allF_tail {n:Nat} (hn:n<4096):allF (tailB n)=([{kind:=17,addr:=n}, {kind:=19}],0):=by
 have hd:=dec_enc hn
 have e:tailB n=17::six (n/64)::six n::[19]:=rfl
 have e1:adE (six (n/64)::six n::[19])=0:=by show (decM _ _).2=0;rw[hd]
 have e2:adN (six (n/64)::six n::[19])=n:=by show (decM _ _).1=n;rw[hd]
 have e3:adL (six (n/64)::six n::[19])=[19]:=rfl
 rw[e,allF_cons,opF_17,e1,e2,e3,if_pos rfl,allF_cons,opF_19,if_pos rfl,allF_nil]
def againS (s t:Sp) (mode:Nat):Sp:= {t.clear s.alt with cells:=s.cells.map (seen mode),cursor:=s.cursor}
theorem ran_again {s t:Sp} (h:s.good) (ht:2≤t.model∧t.model≤5) (hm:t.model=s.model) (hl:looksS s) (mode:Nat):∃x,x.cmd=(if s.alt=true then 3 else 2)∧runS t (replB s.alt s.cursor (bodyB s mode))=⟨againS s t mode,x,[],0⟩:=by
 have hcn:s.cursor<4096:=by have:=h.cursor;have:=s.n_le;omega
 have hsn:(t.clear s.alt).n=s.n:=by unfold Sp.n Sp.rows Sp.cols;rw[show (t.clear s.alt).model=s.model from hm];rfl
 have hcl:(t.clear s.alt).cells=List.replicate s.cells.length .zero:=by
  rw[h.len,←hsn];show List.replicate _ _=_;rfl
 have hall:allF (bodyB s mode++tailB s.cursor)=(opsB s mode++[{kind:=17,addr:=s.cursor}, {kind:=19}],0):=by
  have:=(allF_ats (tailB s.cursor) (.inr rfl) _ (ats_fine hl mode)).1
  rw[allF_tail hcn] at this
  exact this
 have h0:∀(p:Pen) (o:Op),o.kind=0→penT p o=penT p (txtOp o.text):=fun p o ho=>by
  unfold penT Pen.do txtOp;simp[ho]
 have hpen:∀p:Pen,p=pen0 (t.clear s.alt) 0→∃k t2 c,runOps (opsB s mode++[{kind:=17,addr:=s.cursor}, {kind:=19}]) p 0=(⟨againS s t mode,s.cursor,k,t2⟩,c,0):=by
  rintro p rfl
  obtain ⟨t2,hr⟩:=runOps_fine (opsB s mode) (pen0 (t.clear s.alt) 0) 0 (mergeA_fine _ (ats_fine hl mode))
  obtain ⟨k,hc⟩:=penT_cells (mode:=mode) s.cells .zero (t.clear s.alt) [] (fun c hc=>⟨h.fit c hc,hl c hc⟩) (.inr rfl) (by rw[hcl];rfl) (by rw[hsn,←h.len];simp)
  have hf:(opsB s mode).foldl penT (pen0 (t.clear s.alt) 0)=⟨{t.clear s.alt with cells:=s.cells.map (seen mode)},0,k,false⟩:=by
   rw[opsB,foldl_merge penT penT_text h0]
   simp only[List.length_nil,Nat.zero_mod,List.nil_append] at hc
   exact hc
  have hr2:runOps (opsB s mode) (pen0 (t.clear s.alt) 0) 0=(⟨{t.clear s.alt with cells:=s.cells.map (seen mode)},0,k,t2⟩,0+(opsB s mode).length,0):=by
   rw[hr]
   show ({(opsB s mode).foldl penT (pen0 (t.clear s.alt) 0) with texts:=t2},_,_)=_
   rw[hf]
  rw[runOps_append _ _ _ _ (by rw[hr2]),hr2]
  have hlt:¬(({t.clear s.alt with cells:=s.cells.map (seen mode)} :Sp).n:Int)≤(s.cursor:Int):=by
   have:({t.clear s.alt with cells:=s.cells.map (seen mode)} :Sp).n=s.n:=hsn
   have:=h.cursor
   omega
  have hw:wrap ({t.clear s.alt with cells:=s.cells.map (seen mode)} :Sp).n (s.cursor:Int)=s.cursor:=by
   have:({t.clear s.alt with cells:=s.cells.map (seen mode)} :Sp).n=s.n:=hsn
   rw[this];exact wrap_of_lt h.cursor
  refine ⟨k,false,0+(opsB s mode).length+1+1, ?_⟩
  simp only[runOps,Pen.do,Pen.to,if_neg hlt]
  simp[Pen.mark,Sp.place,hw,againS]
 have hq:∀c:UInt8,replB s.alt s.cursor (bodyB s mode)=(if s.alt=true then 0x7e else 0xf5)::0x40::(bodyB s mode++tailB s.cursor):=fun _=>rfl
 rw[hq 0]
 obtain ⟨k,t2,c,hrun⟩:=hpen _ rfl
 have hord:ordS (bodyB s mode++tailB s.cursor) (pen0 (t.clear s.alt) 0) 0=(⟨againS s t mode,s.cursor,k,t2⟩,c,0):=by
  rw[ordS_run,hall,hrun];rfl
 have hw0:wrap (t.clear s.alt).n ((t.clear s.alt).cursor:Int)=0:=wrap_of_lt (t.clear s.alt).n_pos
 cases ha:s.alt
 ·rw[ha] at hord hw0
  have hp:penF t 2 (0x40::(bodyB s mode++tailB s.cursor))=(⟨againS s t mode,s.cursor,k,t2⟩,c,0):=by
   show ordS (bodyB s mode++tailB s.cursor) (pen0 (t.clear false) (wrap (t.clear false).n ((t.clear false).cursor:Int))) 0=_
   rw[hw0,hord]
  refine ⟨resF t 2 (0x40::(bodyB s mode++tailB s.cursor)),rfl, ?_⟩
  show ranCmd t 2 _=_
  unfold ranCmd
  rw[if_pos (.inr (.inl rfl)),hp]
 ·rw[ha] at hord hw0
  have hp:penF t 3 (0x40::(bodyB s mode++tailB s.cursor))=(⟨againS s t mode,s.cursor,k,t2⟩,c,0):=by
   show ordS (bodyB s mode++tailB s.cursor) (pen0 (t.clear true) (wrap (t.clear true).n ((t.clear true).cursor:Int))) 0=_
   rw[hw0,hord]
  refine ⟨resF t 3 (0x40::(bodyB s mode++tailB s.cursor)),rfl, ?_⟩
  show ranCmd t 3 _=_
  unfold ranCmd
  rw[if_pos (.inr (.inr rfl)),hp]
theorem abytes_bad (o:Bool) (l:List (UInt8×UInt8)) (hl:l.length≤255) (hp:¬allP l) (σ:Store):ACalls Tryz.prog 55 [.list o 2 (pairsA l)] σ fun v σ'=>v= .tuple [.list true 1 [], .lit (.int .i64 10)]∧σ'=σ:=by
 refine aw st55 pl55 35 Tryz.func55 rfl ?_
 have hlong':¬(255:Int)<l.length:=by omega
 have hlong:¬255<l.length:=by omega
 have hcv:IntKind.u8.wrap (l.length:Int)=((UInt8.ofNat l.length).toNat:Int):=by
  rw[wrap_u8 (by omega) (by omega),UInt8.toNat_ofNat'];omega
 have hb1:∀m:List UInt8,bytesA (UInt8.ofNat l.length::m)= .lit (.int .u8 ((UInt8.ofNat l.length).toNat:Int))::bytesA m:=fun m=>rfl
 have hpl:=pairsA_length l
 simp[hlong,hlong',hcv,hpl]
 refine codeK.loop follows (st:=st55) (plans:=pl55) (X:=Nat) (fun i=>i≤l.length∧∀j (hj:j<l.length),j<i→chkE l[j].1 l[j].2=0)
  (fun i=>[(4, .list true 1 (bytesA (UInt8.ofNat l.length::flatP (l.take i)))),(15, .list false 2 (pairsA l)),(16, .lit (.int .i64 l.length)),(17, .lit (.int .i64 i))]) (fun _=>σ) (fun i=>l.length-i) 0 (by kernel_rfl) (by simp) (by simp[hb1,flatP,bytesA_nil]) (Store.sub_refl _) fun i hi=> ?_
 obtain ⟨hi,hk⟩:=hi
 by_cases hlt:i<l.length
 ·have hw:IntKind.i64.wrap ((i:Int)+1)=((i+1:Nat):Int):=wrap_i64 (by omega) (by omega)
  have hs:=check_calls l[i].1 l[i].2
  have hga:=pairsA_at l i hlt
  have hf:=flatP_succ l i hlt
  have hfl:=flatP_length (l.take i)
  rw[List.length_take] at hfl
  have hlen1:(bytesA (UInt8.ofNat l.length::flatP (l.take i))).length≤1000:=by simp;omega
  have hnext:bytesA (UInt8.ofNat l.length::flatP (l.take (i+1)))=bytesA (UInt8.ofNat l.length::flatP (l.take i))++[byteA l[i].1,byteA l[i].2]:=by
   rw[hf,←List.cons_append,bytesA_append];rfl
  have hno:chkE l[i].1 l[i].2=0→∀j (hj:j<l.length),j<i+1→chkE l[j].1 l[j].2=0:=fun h j hj hji=>by
   by_cases e:j=i
   ·subst e;exact h
   ·exact hk j hj (by omega)
  have h01:=chkE_01 l[i].1 l[i].2
  generalize bytesA (UInt8.ofNat l.length::flatP (l.take i))=BI at*
  generalize l[i]=x at*
  rcases h01 with h0|h0
  ·rw[h0] at hs
   simp[hlt,hpl,hga]
   intro p hp
   refine callK.eq (hs _) ?_
   simp
   refine ⟨by omega,by omega,i+1,⟨by omega,hno h0⟩,by omega,⟨?_, ?_⟩, ?_⟩
   ·rw[hnext];exact AV.le_refl _
   ·rw[hw];exact AV.le_refl _
   ·exact Store.sub_upd hp (Store.sub_refl _)
  ·rw[h0] at hs
   simp[hlt,hpl,hga]
   intro p hp
   refine callK.eq (hs _) ?_
   simp
   exact Store.sub_upd hp (Store.sub_refl _)
 ·exfalso
  refine hp fun x hx=> ?_
  obtain ⟨j,hj,rfl⟩:=List.mem_iff_getElem.1 hx
  exact hk j hj (by omega)
def SomeS (z:Nat) (out:List UInt8) (last:Cell) (mode:Nat) (σ:Store) (v:AV) (σ':Store):Prop:=∃l:List UInt8,v= .tuple []∧l.length≤20∧σ'=σ.upd z (seO (out++l) last mode)
theorem sattr_bad (z:Nat) (out:List UInt8) (last:Cell) (mode:Nat) (hm:mode<3) (h0:¬mode=0) (c:Cell) (ha:c.attr=true) (hc:¬allP (pairsC c)) (σ:Store) (hz:σ z=some (seO out last mode)):
  ACalls Tryz.prog 26 [ptrA z,cellA c] σ fun v σ'=>v= .tuple []∧σ'=σ:=by
 have hpc:=fun τ=>pairs_c_calls c τ
 rw[hdC_pairs ha] at hpc
 have hlp:(pairsC c).length≤255:=by have:=diffP_length .zero c;unfold pairsC;simp;omega
 have hab:=fun o τ=>abytes_bad o (pairsC c) hlp hc τ
 have hzb:∀b:Nat,σ b=none→¬z=b:=by rintro b hb rfl;rw[hz] at hb;cases hb
 have hs1:∀l,seO l last mode=[.list true 1 (bytesA l),byteA last.char, .lit (.bool last.attr),byteA last.fa,byteA last.high,byteA last.color,byteA last.set, .lit (.int .i64 mode)]:=fun _=>rfl
 rw[hs1] at hz
 rw[cellA_eq] at hpc⊢
 refine aw st26 pl26 43 Tryz.func26 rfl ?_
 have h0':¬(mode:Int)=0:=by omega
 simp
 intro b hb
 have n1:=hzb b hb
 have n2:=Ne.symm n1
 simp[hz,n1,n2,h0,h0']
 refine callK.eq (hpc _) ?_
 simp
 refine callK.eq (hab _ _) ?_
 simp
 exact sub_upd_self _ _ _ hb
theorem scell_some {z:Nat} {x:Snd} {mode:Nat} (hm:mode<3) (c:Cell) (hx:mode=2∨x.2= .zero) (ho:x.1.length≤1000000000) {σ:Store} (hz:σ z=some (seX mode x)):
  (c.attr=true→ACalls Tryz.prog 26 [ptrA z,cellA c] σ fun v σ'=>v= .tuple []∧∃y:Snd,y.1.length≤x.1.length+20∧(mode=2∨y.2= .zero)∧σ'=σ.upd z (seX mode y))∧
  (c.attr=false→ACalls Tryz.prog 27 [ptrA z,cellA c] σ fun v σ'=>v= .tuple []∧∃y:Snd,y.1.length≤x.1.length+20∧(mode=2∨y.2= .zero)∧σ'=σ.upd z (seX mode y)):=by
 have hst:∀h:mode=2∨x.2= .zero,mode=2∨(stepB mode x c).2= .zero:=fun h=>foldl_last mode [c] x h
 refine ⟨fun ha=> ?_,fun ha=>(schar_any hm ha hx ho hz).mono fun v σ' ⟨h1,h2⟩=>⟨h1,_,stepB_len mode x c,hst hx,h2⟩⟩
 by_cases h0:mode=0
 ·exact (sattr_any hm ha (fun h=>absurd h0 h) ho hz).mono fun v σ' ⟨h1,h2⟩=>⟨h1,_,stepB_len mode x c,hst hx,h2⟩
 ·by_cases hp:allP (pairsC c)
  ·have hz0:chkE 65 0=0∧chkE 66 0=0∧chkE 67 0=0:=by decide
   have hd:∀t v,(t,v)∈diffP .zero c→chkE t v=0:=fun t v h=>hp (t,v) (List.mem_cons_of_mem _ h)
   have hc:okC c:=by
    refine ⟨?_, ?_, ?_⟩
    ·by_cases e:c.high=0
     ·rw[e];exact hz0.1
     ·exact hd _ _ (by unfold diffP d1;rw[if_neg (fun x=>e x.symm)];simp)
    ·by_cases e:c.color=0
     ·rw[e];exact hz0.2.1
     ·exact hd _ _ (by unfold diffP d2;rw[if_neg (fun x=>e x.symm)];simp)
    ·by_cases e:c.set=0
     ·rw[e];exact hz0.2.2
     ·exact hd _ _ (by unfold diffP d3;rw[if_neg (fun x=>e x.symm)];simp)
   exact (sattr_any hm ha (fun _=>hc) ho hz).mono fun v σ' ⟨h1,h2⟩=>⟨h1,_,stepB_len mode x c,hst hx,h2⟩
  ·exact (sattr_bad z x.1 x.2 mode hm h0 c ha hp σ hz).mono fun v σ' ⟨h1,h2⟩=>⟨h1,x,by omega,hx,by rw[h2];exact (upd_back hz).symm⟩
def InvS (σ3:Store) (z mode k:Nat) (ρ:Store):Prop:=∃x:Snd,x.1.length≤3+k*20∧(mode=2∨x.2= .zero)∧ρ=σ3.upd z (seX mode x)
theorem buffer_some {q p:Nat} {s:Sp} {σ:Store} (h:Prg σ q p s) (aid:UInt8) (mode:Nat) (hm:mode<3):
  ACalls Tryz.prog 6 [ptrA q,byteA aid, .lit (.int .i64 mode)] σ fun v σ'=>(∃l:List UInt8,v= .tuple [.list false 1 (bytesA l), .lit (.int .i64 0)])∧σ'=σ:=by
 have hb:=fun τ (hτ:Prg τ q p s)=>begin_long hτ aid mode hm
 have hhl:(headB s aid).length=3:=rfl
 have hln:=h.good.len
 have hn:=s.n_le
 refine ACalls.of_awpY follows (st:=st6) (plans:=pl6) (n:=38) Tryz.func6 rfl (by kernel_rfl) (by kernel_rfl) (by kernel_rfl) ?_
 simp
 refine callK.of (hb _ h) ?_
 rintro v σ' ⟨z,hz,rfl,rfl⟩
 have hP2:=h.new hz (seO (headB s aid) .zero mode)
 obtain ⟨y1,y2,y3,y4⟩:=h.fresh hz
 simp
 intro bt ht
 simp only[ite_none] at ht
 obtain ⟨t1,ht⟩:=ht
 have t1':=Ne.symm t1
 obtain ⟨u1,u2,u3,u4⟩:=h.fresh ht
 refine callK.of (all_calls2 q _) ?_
 rintro v σ' ⟨b2,hb2,rfl,rfl⟩
 simp only[supd_apply,ite_none] at hb2
 obtain ⟨v1,v2,hb2⟩:=hb2
 obtain ⟨w1,w2,w3,w4⟩:=h.fresh hb2
 simp
 refine codeYK.rangeG follows (st:=st6) (plans:=pl6) (all_iter b2 q p s _) (by simp) (by simp) (by simp[cellA]) (by kernel_rfl) (by kernel_rfl) (by kernel_rfl)
  (fun k ρ _=>InvS ((σ.upd bt [ptrA z]).upd b2 [ptrA q]) z mode k ρ) (fun _ _ _=>False)
  _ ⟨(headB s aid, .zero),by simp[hhl], .inr rfl,rfl⟩ ?_ ?_ ?_ ?_ ?_
 ·have n1:=Ne.symm v1
  have n2:=Ne.symm v2
  show Store.sub ((((σ.upd bt [ptrA z]).upd b2 [ptrA q])).upd z (seO (headB s aid) .zero mode)) _
  (intro q;simp only[Store.upd,Store.del];(repeat' split)<;>first|exact Or.inr rfl|exact Or.inl rfl|(exfalso;omega)|(left;subst_vars;assumption)|simp_all)
 ·rintro k ρ E hk ⟨x,_,_,rfl⟩
  refine ⟨by simp[v2,Ne.symm v2],((h.upd ⟨u1,u2⟩ _).upd ⟨w1,w2⟩ _).upd ⟨y1,y2⟩ _⟩
 ·rintro k hk ρ E ⟨x,hxl,hx,rfl⟩
  have hkc:k<s.cells.length:=by omega
  have hat:=at_of h.good hk
  have hcc:s.at (k:Int)=s.cells[k]:=by rw[hat];simp[hkc]
  have hsx:=fun τ (hτ:τ z=some (seX mode x))=>scell_some hm s.cells[k] hx (by omega) (σ:=τ) hτ
  rw[hcc]
  simp only[cellA_eq] at hsx⊢
  generalize s.cells[k]=c at*
  clear hat hcc hb
  have hz3:(((σ.upd bt [ptrA z]).upd b2 [ptrA q]).upd z (seX mode x)) z=some (seX mode x):=by simp
  have ht3:(((σ.upd bt [ptrA z]).upd b2 [ptrA q]).upd z (seX mode x)) bt=some [ptrA z]:=by simp[t1,v1,Ne.symm v1]
  have hfin:∀y,(((σ.upd bt [ptrA z]).upd b2 [ptrA q]).upd z (seX mode x)).upd z (seX mode y)=(((σ.upd bt [ptrA z]).upd b2 [ptrA q]).upd z (seX mode y)):=fun y=>by simp
  have hgoal:∀(y:Snd) (τ:Store),y.1.length≤x.1.length+20→(mode=2∨y.2= .zero)→Store.sub ((((σ.upd bt [ptrA z]).upd b2 [ptrA q]).upd z (seX mode x)).upd z (seX mode y)) τ→
    ∃ρ,Store.sub ρ τ∧InvS ((σ.upd bt [ptrA z]).upd b2 [ptrA q]) z mode (k+1) ρ:=fun y τ h1 h2 h3=>
   ⟨_,h3,y,by omega,h2,hfin y⟩
  generalize (((σ.upd bt [ptrA z]).upd b2 [ptrA q]).upd z (seX mode x))=σ3 at*
  generalize hA:setPs _ [24,25] _=A1
  have hA8:A1 8=ptrA bt:=by rw[←hA];simp
  have hA25:A1 25=cellA c:=by rw[←hA];simp[cellA_eq]
  clear hA hP2 hfin
  by_cases ha:c.attr=true
  ·simp+contextual [ite_free,hz3,ht3,hA8,hA25,cellA_eq,ha]
   intro b hb
   have n1:¬bt=b:=fun e=>by rw[e,hb] at ht3;cases ht3
   have n2:¬z=b:=fun e=>by rw[e,hb] at hz3;cases hz3
   simp[n1,n2,hz3,ht3,hA8]
   have hsa:=(hsx (σ3.upd b [byteA c.char, .lit (.bool true),byteA c.fa,byteA c.high,byteA c.color,byteA c.set]) (by simp[n2,hz3])).1 ha
   rw[ha] at hsa
   refine callK.of hsa ?_
   rintro v σ' ⟨rfl,y,y1,y2,rfl⟩
   simp
   exact hgoal y _ y1 y2 (sub_box hb n2 rfl)
  ·have ha':c.attr=false:=by simpa using ha
   simp+contextual [ite_free,hz3,ht3,hA8,hA25,cellA_eq,ha']
   intro b hb
   have n1:¬bt=b:=fun e=>by rw[e,hb] at ht3;cases ht3
   have n2:¬z=b:=fun e=>by rw[e,hb] at hz3;cases hz3
   simp[n1,n2,hz3,ht3,hA8]
   have hsa:=(hsx (σ3.upd b [byteA c.char, .lit (.bool false),byteA c.fa,byteA c.high,byteA c.color,byteA c.set]) (by simp[n2,hz3])).2 ha'
   rw[ha'] at hsa
   refine callK.of hsa ?_
   rintro v σ' ⟨rfl,y,y1,y2,rfl⟩
   simp
   exact hgoal y _ y1 y2 (sub_box hb n2 rfl)
 ·rintro ρ E σ2 hs2 ⟨x,_,_,rfl⟩
  have hz2:=sub_at (x:=seX mode x) (b:=z) (by simp) hs2
  have ht2:=sub_at (x:=[ptrA z]) (b:=bt) (by simp[t1,v1,Ne.symm v1]) hs2
  unfold seX seO at hz2
  have hzn:Store.sub σ (((σ.upd bt [ptrA z]).upd b2 [ptrA q]).upd z (seX mode x)):=by (intro q;simp only[Store.upd,Store.del];(repeat' split)<;>first|exact Or.inr rfl|exact Or.inl rfl|(exfalso;omega)|(left;subst_vars;assumption)|simp_all)
  simp[hz2,ht2]
  exact ⟨_,AV.le_refl _,Store.sub_trans hzn hs2,_,rfl⟩
 ·rintro c ρ E σ2 hs2 hf
  exact hf.elim
theorem rdiff_calls (a b:Cell) (σ:Store):ACalls Tryz.prog 28 [cellA a,cellA b] σ fun v σ'=>v= .list false 2 ((diffP a b).map p2A)∧σ'=σ:=by
 rw[cellA_eq,cellA_eq]
 have n1:¬a.high=b.high→¬(a.high.toNat:Int)=b.high.toNat:=fun h e=>h (UInt8.toNat_inj.1 (by omega))
 have n2:¬a.color=b.color→¬(a.color.toNat:Int)=b.color.toNat:=fun h e=>h (UInt8.toNat_inj.1 (by omega))
 have n3:¬a.set=b.set→¬(a.set.toNat:Int)=b.set.toNat:=fun h e=>h (UInt8.toNat_inj.1 (by omega))
 refine aw st28 pl28 40 Tryz.func28 rfl ?_
 rw[diffP,d1,d2,d3]
 generalize a.char=x0 at*;generalize a.attr=x1 at*;generalize a.fa=x2 at*;generalize a.high=x3 at*;generalize a.color=x4 at*;generalize a.set=x5 at*
 generalize b.char=y0 at*;generalize b.attr=y1 at*;generalize b.fa=y2 at*;generalize b.high=y3 at*;generalize b.color=y4 at*;generalize b.set=y5 at*
 by_cases c1:x3=y3<;>by_cases c2:x4=y4<;>by_cases c3:x5=y5<;>
  (simp+contextual [c1,c2,c3,byteA_lit x3,byteA_lit x4,byteA_lit x5,byteA_lit y3,byteA_lit y4,byteA_lit y5,n1,n2,n3,p2A,ite_free];intros;first|(refine ⟨AV.le_list _ _ _, ?_⟩;(intro q;simp only[Store.upd,Store.del];(repeat' split)<;>first|exact Or.inr rfl|exact Or.inl rfl|(exfalso;omega)|(left;subst_vars;assumption)|simp_all))|(intro q;simp only[Store.upd,Store.del];(repeat' split)<;>first|exact Or.inr rfl|exact Or.inl rfl|(exfalso;omega)|(left;subst_vars;assumption)|simp_all))
theorem sent_calls (c:UInt8) (σ:Store):ACalls Tryz.prog 14 [byteA c] σ fun v σ'=>v=byteA (codeB c)∧σ'=σ:=by
 have hi:=is16_calls c
 refine aw st14 pl14 6 Tryz.func14 rfl ?_
 unfold codeB
 by_cases h:isOrd c=true
 ·rw[h] at hi
  simp
  refine callK.of (hi _) ?_
  rintro v σ' ⟨rfl,rfl⟩
  simp[h];exact AV.le_refl _
 ·rw[show isOrd c=false by simpa using h] at hi
  simp
  refine callK.of (hi _) ?_
  rintro v σ' ⟨rfl,rfl⟩
  simp[h]
theorem chkE_ok (t x:UInt8):chkE t x=0↔okP t.toNat x.toNat:=by
 unfold chkE;split<;>simp_all
theorem okP_zero:okP 65 0∧okP 66 0∧okP 67 0:=by decide
theorem okCell_diff (c:Cell):okCell c↔∀x∈diffP .zero c,okP x.1.toNat x.2.toNat:=by
 have e1:∀v:UInt8,(0:UInt8)=v→v.toNat=0:=fun v h=>by subst h;rfl
 simp only[okCell,chkE_ok,diffP,List.mem_append,d1,d2,d3,Cell.zero]
 have a1:(0x41:UInt8).toNat=65:=rfl
 have a2:(0x42:UInt8).toNat=66:=rfl
 have a3:(0x43:UInt8).toNat=67:=rfl
 rw[a1,a2,a3]
 constructor
 ·rintro ⟨h1,h2,h3⟩ x hx
  rcases hx with hx|hx|hx
  ·by_cases e:(0:UInt8)=c.high
   ·simp[e] at hx
   ·simp[e] at hx;subst hx;exact h1
  ·by_cases e:(0:UInt8)=c.color
   ·simp[e] at hx
   ·simp[e] at hx;subst hx;exact h2
  ·by_cases e:(0:UInt8)=c.set
   ·simp[e] at hx
   ·simp[e] at hx;subst hx;exact h3
 ·intro h
  refine ⟨?_, ?_, ?_⟩
  ·by_cases h0:(0:UInt8)=c.high
   ·rw[e1 _ h0];exact okP_zero.1
   ·exact h (0x41,c.high) (.inl (by simp[h0]))
  ·by_cases h0:(0:UInt8)=c.color
   ·rw[e1 _ h0];exact okP_zero.2.1
   ·exact h (0x42,c.color) (.inr (.inl (by simp[h0])))
  ·by_cases h0:(0:UInt8)=c.set
   ·rw[e1 _ h0];exact okP_zero.2.2
   ·exact h (0x43,c.set) (.inr (.inr (by simp[h0])))
theorem looks2_calls {x y:Nat} {s:Sp} {σ:Store} (h:Ref σ x y s):ACalls Tryz.prog 7 [ptrA x] σ fun v σ'=>v= .lit (.bool (decide (looksS s)))∧σ'=σ:=by
 have hro:=h.obj
 have hrow:=h.row
 have hln:=h.good.len
 have hn:=s.n_le
 unfold rfO at hro
 refine aw st7 pl7 29 Tryz.func7 rfl ?_
 simp[hro,rowC]
 refine codeK.loop follows (st:=st7) (plans:=pl7) (X:=Nat) (fun i=>i≤s.n∧∀j (hj:j<s.cells.length),j<i→okCell s.cells[j])
  (fun i=>[(10,rowC y s.n),(11, .lit (.int .i64 s.n)),(12, .lit (.int .i64 i))]) (fun _=>σ) (fun i=>s.n-i) 0 (by kernel_rfl) (by simp) (by simp[rowC]) (Store.sub_refl _) fun i hi=> ?_
 obtain ⟨hi,hk⟩:=hi
 by_cases hlt:i<s.n
 ·have hw:IntKind.i64.wrap ((i:Int)+1)=((i+1:Nat):Int):=wrap_i64 (by omega) (by omega)
  have hic:i<s.cells.length:=by omega
  have hgi:=cellsO_get hic
  have hle:i*6+6≤(cellsO s.cells).length:=by rw[cellsO_length];omega
  have hnx:okCell s.cells[i]→∀j (hj:j<s.cells.length),j<i+1→okCell s.cells[j]:=fun h j hj hji=>by
   by_cases e:j=i
   ·subst e;exact h
   ·exact hk j hj (by omega)
  have hno:¬okCell s.cells[i]→¬looksS s:=fun h h2=>h (h2 _ (List.getElem_mem hic))
  generalize s.cells[i]=c at*
  have hd:=fun τ=>rdiff_calls .zero c τ
  have hoc:=okCell_diff c
  have hdl:=diffP_length .zero c
  generalize diffP .zero c=L at*
  have hcz:cellA .zero= .agg [.lit (.int .u8 0), .lit (.bool false), .lit (.int .u8 0), .lit (.int .u8 0), .lit (.int .u8 0), .lit (.int .u8 0)]:=rfl
  rw[hcz] at hd
  rw[cellA_eq] at hd
  have hcx:cellC c=[byteA c.char, .lit (.bool c.attr),byteA c.fa,byteA c.high,byteA c.color,byteA c.set]:=rfl
  rw[hcx] at hgi
  simp[hlt,rowC,hrow,hle,hgi]
  intro b hb
  refine callK.of (hd _) ?_
  rintro v σ' ⟨rfl,rfl⟩
  simp
  refine codeK.loop follows (st:=st7) (plans:=pl7) (X:=Nat) (fun j=>j≤L.length∧∀k (hk:k<L.length),k<j→okP L[k].1.toNat L[k].2.toNat)
   (fun j=>[(10,rowC y s.n),(11, .lit (.int .i64 s.n)),(12, .lit (.int .i64 i)),(18, .list false 2 (L.map p2A)),(19, .lit (.int .i64 L.length)),(20, .lit (.int .i64 j))]) (fun _=>σ) (fun j=>L.length-j) 0 (by kernel_rfl) (by simp) (by simp[rowC]) (sub_upd_self _ _ _ hb) fun j hj=> ?_
  obtain ⟨hj,hjk⟩:=hj
  by_cases hjl:j<L.length
  ·have hwj:IntKind.i64.wrap ((j:Int)+1)=((j+1:Nat):Int):=wrap_i64 (by omega) (by omega)
   have hkj:(L.map p2A)[j]'(by simpa using hjl)=p2A L[j]:=by simp
   have hjn:okP L[j].1.toNat L[j].2.toNat→∀k (hk:k<L.length),k<j+1→okP L[k].1.toNat L[k].2.toNat:=fun h k hk' hkj=>by
    by_cases e:k=j
    ·subst e;exact h
    ·exact hjk k hk' (by omega)
   have hjo:¬okP L[j].1.toNat L[j].2.toNat→¬okCell c:=fun h h2=>h (hoc.1 h2 _ (List.getElem_mem hjl))
   generalize L[j]=z at*
   have hk2:p2A z= .agg [byteA z.1,byteA z.2]:=rfl
   have hr:=fun τ=>right_calls z.1 z.2 τ
   simp[hjl,hkj,hk2]
   intro b2 hb2
   refine callK.of (hr _) ?_
   rintro v σ2 ⟨rfl,rfl⟩
   by_cases ho:okP z.1.toNat z.2.toNat
   ·simp[ho]
    exact ⟨j+1,⟨by omega,hjn ho⟩,by omega,by rw[hwj];exact AV.le_refl _,sub_upd_self _ _ _ hb2⟩
   ·have hf:=hno (hjo ho)
    simp[ho,hf]
    exact sub_upd_self _ _ _ hb2
  ·obtain rfl:j=L.length:=by omega
   have hc:okCell c:=hoc.2 fun x hx=>by
    obtain ⟨k,hk,rfl⟩:=List.getElem_of_mem hx
    exact hjk k hk hk
   simp
   exact ⟨i+1,⟨by omega,hnx hc⟩,by omega,by rw[hw];exact ⟨AV.le_refl _,AV.le_refl _⟩⟩
 ·obtain rfl:i=s.n:=by omega
  have hl:looksS s:=fun c hc=>by
   obtain ⟨k,hk',rfl⟩:=List.getElem_of_mem hc
   exact hk k hk' (by omega)
  simp[hl]
end Go.Proofs.YtjnopnpkfhopbaaGreatDoor
namespace Go.Proofs.YtjnopnpkfhopbaaGreatDoor
open Go Go.AL
def enO (e:En):AV:= .agg [.lit (.int .i64 e.addr), .list true 1 (bytesA e.text)]
def esO (l:List En):List AV:=l.flatMap fun e=>(enO e).cells
theorem esO_length (l:List En):(esO l).length=l.length*2:=by
 induction l with
 |nil=>rfl
 |cons e l ih=>simp only[esO,List.flatMap_cons,List.length_append,List.length_cons] at*;rw[ih];simp[enO,AV.cells];omega
theorem esO_append (l k:List En):esO (l++k)=esO l++esO k:=by simp[esO]
theorem esO_one (e:En):esO [e]=[.lit (.int .i64 e.addr), .list true 1 (bytesA e.text)]:=by simp[esO,enO]
theorem mid_get {X Y:List AV} (j:Nat):(X++Y)[X.length+j]?=Y[j]?:=by
 rw[List.getElem?_append_right (by omega)];congr 1;omega
theorem last_get (init:List En) (last:En) (rest:List AV):(esO (init++[last])++rest)[init.length*2+1]?=some (.list true 1 (bytesA last.text)):=by
 rw[esO_append,esO_one,List.append_assoc]
 have h1:=mid_get (X:=esO init) (Y:=[AV.lit (.int .i64 last.addr), .list true 1 (bytesA last.text)]++rest) 1
 rw[esO_length] at h1
 exact h1
theorem last_set (init:List En) (last:En) (rest:List AV) (d:List UInt8):(esO (init++[last])++rest).set (init.length*2+1) (.list true 1 (bytesA d))=esO (init++[{last with text:=d}])++rest:=by
 rw[esO_append,esO_append,esO_one,esO_one,List.append_assoc,List.append_assoc,List.set_append_right _ _ (by rw[esO_length];omega),esO_length]
 congr 1
 rw[show init.length*2+1-init.length*2=1 by omega]
 rfl
theorem take_esO (l:List En) (rest:List AV):(esO l++rest).take (l.length*2)=esO l:=by
 rw[←esO_length,List.take_left]
theorem sub_of_eq {σ τ:Store} (h:σ=τ):Store.sub σ τ:=h▸Store.sub_refl _
def rowN (p cap n:Nat):AV:= .lit (.slice (some ⟨p,0,none⟩) n cap)
theorem add_nil (q:Nat) (A B C:AV) (o:Bool) (t:List UInt8) (ht:t.length≤1000000) (σ:Store) (hq:σ q=some [A,B,C, .lit (.slice none 0 0)]):
  ACalls Tryz.prog 42 [ptrA q, .list o 1 (bytesA t)] σ fun v σ'=>∃p:Nat,v= .tuple []∧σ p=none∧σ'=(σ.upd p (esO [⟨0,t⟩])).upd q [A,B,C,rowN p 1 1]:=by
 refine aw st42 pl42 36 Tryz.func42 rfl ?_
 simp[hq]
 intro p hp
 have hpq:q≠p:=fun h=>by subst h;rw[hq] at hp;cases hp
 have hw:IntKind.i64.wrap 0=0:=by decide
 simp[hpq,Ne.symm hpq,hw]
 refine ⟨by omega,by omega,_,AV.le_refl _,_, ?_,rfl,p,hp,rfl⟩
 refine sub_of_eq ?_
 refine Store.ext2 (fun k=> ?_) (fun g=>by simp)
 simp only[supd_apply,esO_one,rowN]
 by_cases h1:k=p
 ·subst h1;simp[Ne.symm hpq]
 ·by_cases h2:k=q
  ·subst h2;simp[hpq]
  ·simp[h1,h2]
theorem add_more (q p cap:Nat) (A B C:AV) (o:Bool) (init:List En) (last:En) (rest:List AV) (t:List UInt8) (ht:last.text.length+t.length≤1000000) (hil:init.length≤1000000) (hcap:init.length+1≤cap) (hcm:cap≤9223372036854775807) (hlen:(esO (init++[last])++rest).length=cap*2)
  (σ:Store) (hpq:p≠q) (hq:σ q=some [A,B,C,rowN p cap (init.length+1)]) (hp:σ p=some (esO (init++[last])++rest)):
  ACalls Tryz.prog 42 [ptrA q, .list o 1 (bytesA t)] σ fun v σ'=>v= .tuple []∧σ'=σ.upd p (esO (init++[{last with text:=last.text++t}])++rest):=by
 have hn1:IntKind.i64.wrap (((init.length+1:Nat):Int)-1)=(init.length:Int):=by
  rw[wrap_i64 (by omega) (by omega)];omega
 have hn2:IntKind.i64.wrap ((init.length:Int)+1-1)=(init.length:Int):=by
  rw[wrap_i64 (by omega) (by omega)];omega
 have hw:IntKind.i64.wrap ((init.length:Int))=(init.length:Int):=by
  rw[wrap_i64 (by omega) (by omega)]
 have g1:=last_get init last rest
 have hs:=last_set init last rest (last.text++t)
 have hlb:init.length*2+1<(esO (init++[last])++rest).length:=(List.getElem?_eq_some_iff.1 g1).1
 have h0:¬((init.length:Int)+1=0):=by omega
 have hlt:(init.length:Int)<(init.length:Int)+1:=by omega
 rw[bytesA_append] at hs
 unfold rowN at hq
 generalize esO (init++[last])++rest=L at*
 generalize esO (init++[{last with text:=last.text++t}])++rest=M at*
 refine aw st42 pl42 36 Tryz.func42 rfl ?_
 simp[hq,hp,hw,h0,hlt,g1]
 exact ⟨by omega,by omega,by omega,sub_eq hs.symm⟩
end Go.Proofs.YtjnopnpkfhopbaaGreatDoor
