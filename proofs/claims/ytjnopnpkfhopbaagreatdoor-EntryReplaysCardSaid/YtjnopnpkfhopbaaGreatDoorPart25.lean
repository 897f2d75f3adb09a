/-
 What a host writes.
-/
import Derived.Test.YtjnopnpkfhopbaaGreatDoorPart24
set_option linter.unusedSimpArgs false
set_option linter.unusedVariables false
set_option maxRecDepth 8000
set_option maxHeartbeats 8000000
namespace Go.Proofs.YtjnopnpkfhopbaaGreatDoor
open Go Go.AL Go.Sp
structure Res where
 cmd:Nat
 restore:Bool
 alarm:Bool
 reset:Bool
 pieces:Nat
def beginS (s:Sp) (cmd:Nat) (ctl:UInt8):Sp:=if cmd=1 then (if ctl&&&1=0 then s else unmodS s) else s.clear (decide (cmd=3))
def ctlOf (l:List UInt8):UInt8:=l.headD 0
def penF (s:Sp) (cmd:Nat) (l:List UInt8):Pen×Nat×Nat:=ordS l.tail (pen0 (beginS s cmd (ctlOf l)) (wrap (beginS s cmd (ctlOf l)).n (beginS s cmd (ctlOf l)).cursor)) 0
def resF (s:Sp) (cmd:Nat) (l:List UInt8):Res:=
 let e:=decide ((penF s cmd l).2.2=0)
 ⟨cmd,e&& !(ctlOf l&&&2==0),e&& !(ctlOf l&&&4==0),e&& !(ctlOf l&&&64==0),(penF s cmd l).2.1⟩
def resC (x:Res) (f:AV):List AV:=[.lit (.int .i64 x.cmd), .lit (.bool x.restore), .lit (.bool x.alarm), .lit (.bool x.reset), .lit (.int .i64 x.pieces),f]
theorem three {P A B C:Prop} (h:A∨B∨C) (a:A→P) (b:B→P) (c:C→P):P:=h.elim a fun h=>h.elim b c
theorem begin_w (s:Sp) (c:UInt8) (h:c&&&1=0):beginS s 1 c=s:=by simp[beginS,h]
theorem begin_u (s:Sp) (c:UInt8) (h:¬c&&&1=0):beginS s 1 c=unmodS s:=by simp[beginS,h]
theorem begin_e (s:Sp) (k:Nat) (c:UInt8) (h:¬k=1):beginS s k c=s.clear (decide (k=3)):=by simp[beginS,h]
theorem unmodS_same {s:Sp} (h:s.good):SameN s (unmodS s):=by
 rw[←unmodTo_all s];exact (keep_unmodTo h _).same
theorem pen0_lt (s:Sp) (k:Int):(pen0 s (wrap s.n k)).n<s.n:=wrap_lt s.n_pos k
theorem bit_ne (c m:UInt8):(((c&&&m).toNat:Int) !=0)= !(c&&&m==0):=by
 have:((c&&&m).toNat:Int)=0↔c&&&m=0:=⟨fun h=>UInt8.toNat_inj.mp (by have z:(0:UInt8).toNat=0:=rfl;omega),fun h=>by rw[h];rfl⟩
 by_cases h:c&&&m=0
 ·simp[h]
 ·have h2:¬((c&&&m).toNat:Int)=0:=fun e=>h (this.mp e)
  rw[bne_iff_ne.mpr h2];simp[h]
theorem clear_lv {σ ρ:Store} {q p:Nat} {s:Sp} (h:Store.sub σ ρ) (hq:¬q=p) (hs:s.good):Lv σ (putS spO ρ q p s) q p s:=by
 refine ⟨Scr.of_put hq hs,Store.sub2 (fun o=> ?_) (fun i=>by simpa[putS] using h (mkey i))⟩
 by_cases h1:o=q
 ·subst h1;right;simp[putS]
 ·by_cases h2:o=p
  ·subst h2;right;simp[putS]
  ·rw[putS_at h1 h2,putS_at h1 h2];exact h o
theorem written_calls {q r:Nat} {s:Sp} {σ:Store} (h:Prg σ q r s) (cmd:Nat) (o:Bool) (l:List UInt8) (hl:l.length≤1000000000):
  ACalls Tryz.prog 38 [ptrA q, .agg [.lit (.int .i64 cmd), .lit (.bool false), .lit (.bool false), .lit (.bool false), .lit (.int .i64 0), .list false 1 []], .list o 1 (bytesA l)] σ fun v σ'=>
   v= .tuple [.agg (resC (resF s cmd l) (.list false 1 [])), .lit (.int .i64 (penF s cmd l).2.2)]∧∃r',(r'=r∨σ r'=none)∧σ'=putS spO σ q r' (penF s cmd l).1.s:=by
 refine three (A:=cmd=1∧ctlOf l&&&1=0) (B:=cmd=1∧¬ctlOf l&&&1=0) (C:=¬cmd=1) (by by_cases a:cmd=1<;>by_cases b:ctlOf l&&&1=0<;>simp[a,b]) ?wn ?wu ?er
 case' wn=>
  rintro ⟨rfl,hb⟩
  have hbeg:=begin_w s _ hb
  have hw0:IntKind.u8.wrap 0=0:=rfl
  have hs1:SameN s s:=SameN.refl h.good
  rcases l with _|⟨c,tl⟩
  all_goals
   refine aw st38 pl38 59 Tryz.func38 rfl ?_
  case' cons=>
   have hcc:bytesA (c::tl)=byteA c::bytesA tl:=rfl
   have htk:(bytesA tl).take tl.length=bytesA tl:=by rw[←bytesA_length tl,List.take_length]
   have ha1:pureBin .and (.int .u8 (c.toNat:Int)) (.int .u8 1)=some (.int .u8 ((c&&&1).toNat:Int)):=and_u8 c 1
   have hb':c&&&1=0:=hb
   simp+contextual [ite_free,hcc,htk,byteA_lit,ha1,hb', -e_pureBin_8]
  case' nil=>simp+contextual [ite_free,hw0]
  all_goals
   intro p hp p1 n1 n2 hp1
   have f1:=h.fresh hp
   have f2:=h.fresh hp1
   have d1:¬p=q∧¬p=r:=f1.2.2
   have d2:¬p1=q∧¬p1=r:=f2.2.2
   have hL:Lv σ ((σ.upd p [.lit (.int .i64 1), .lit (.bool false), .lit (.bool false), .lit (.bool false), .lit (.int .i64 0), .list false 1 []]).upd p1 [.lit (.int .i64 0), .lit (.bool false), .lit (.bool false), .lit (.bool false), .lit (.int .i64 0), .list true 1 []]) q r s:=((Lv.refl h).new hp _).new (by simp[n1,hp1]) _
   have hρp:((σ.upd p [.lit (.int .i64 1), .lit (.bool false), .lit (.bool false), .lit (.bool false), .lit (.int .i64 0), .list false 1 []]).upd p1 [.lit (.int .i64 0), .lit (.bool false), .lit (.bool false), .lit (.bool false), .lit (.int .i64 0), .list true 1 []]) p=some [.lit (.int .i64 1), .lit (.bool false), .lit (.bool false), .lit (.bool false), .lit (.int .i64 0), .list false 1 []]:=by simp[n2]
   have hρ1:((σ.upd p [.lit (.int .i64 1), .lit (.bool false), .lit (.bool false), .lit (.bool false), .lit (.int .i64 0), .list false 1 []]).upd p1 [.lit (.int .i64 0), .lit (.bool false), .lit (.bool false), .lit (.bool false), .lit (.int .i64 0), .list true 1 []]) p1=some [.lit (.int .i64 0), .lit (.bool false), .lit (.bool false), .lit (.bool false), .lit (.int .i64 0), .list true 1 []]:=by simp
   generalize hX:((σ.upd p _).upd p1 _)=ρ at*
   clear hX
  case' cons=>
   obtain ⟨r',s1,hL,hs1,hbeg,hr',d1,d2⟩:∃r' s1,Lv σ ρ q r' s1∧s1.good∧beginS s 1 (ctlOf (c::tl))=s1∧(r'=r∨σ r'=none)∧(¬p=q∧¬p=r')∧(¬p1=q∧¬p1=r'):=⟨_,_,hL,hs1.1,hbeg, .inl rfl,d1,d2⟩
  case' nil=>
   obtain ⟨r',s1,hL,hs1,hbeg,hr',d1,d2⟩:∃r' s1,Lv σ ρ q r' s1∧s1.good∧beginS s 1 (ctlOf [])=s1∧(r'=r∨σ r'=none)∧(¬p=q∧¬p=r')∧(¬p1=q∧¬p1=r'):=⟨_,_,hL,hs1.1,hbeg, .inl rfl,d1,d2⟩
 case' wu=>
  rintro ⟨rfl,hb⟩
  have hbeg:=begin_u s _ hb
  have hs1:SameN s (unmodS s):=unmodS_same h.good
  rcases l with _|⟨c,tl⟩
  all_goals
   refine aw st38 pl38 59 Tryz.func38 rfl ?_
  case' cons=>
   have hcc:bytesA (c::tl)=byteA c::bytesA tl:=rfl
   have htk:(bytesA tl).take tl.length=bytesA tl:=by rw[←bytesA_length tl,List.take_length]
   have ha1:pureBin .and (.int .u8 (c.toNat:Int)) (.int .u8 1)=some (.int .u8 ((c&&&1).toNat:Int)):=and_u8 c 1
   have hb':¬c&&&1=0:=hb
   have hb2:¬((c&&&1).toNat=0):=fun e=>hb' (UInt8.toNat_inj.mp (by have z:(0:UInt8).toNat=0:=rfl;omega))
   simp+contextual [ite_free,hcc,htk,byteA_lit,ha1,hb2, -e_pureBin_8, -UInt8.toNat_and]
  case' nil=>exact absurd rfl hb
  case' cons=>
   intro p hp p1 n1 n2 hp1
   have f1:=h.fresh hp
   have f2:=h.fresh hp1
   have d1:¬p=q∧¬p=r:=f1.2.2
   have d2:¬p1=q∧¬p1=r:=f2.2.2
   have hL:Lv σ ((σ.upd p [.lit (.int .i64 1), .lit (.bool false), .lit (.bool false), .lit (.bool false), .lit (.int .i64 0), .list false 1 []]).upd p1 [.lit (.int .i64 0), .lit (.bool false), .lit (.bool false), .lit (.bool false), .lit (.int .i64 0), .list true 1 []]) q r s:=((Lv.refl h).new hp _).new (by simp[n1,hp1]) _
   have hρp:((σ.upd p [.lit (.int .i64 1), .lit (.bool false), .lit (.bool false), .lit (.bool false), .lit (.int .i64 0), .list false 1 []]).upd p1 [.lit (.int .i64 0), .lit (.bool false), .lit (.bool false), .lit (.bool false), .lit (.int .i64 0), .list true 1 []]) p=some [.lit (.int .i64 1), .lit (.bool false), .lit (.bool false), .lit (.bool false), .lit (.int .i64 0), .list false 1 []]:=by simp[n2]
   have hρ1:((σ.upd p [.lit (.int .i64 1), .lit (.bool false), .lit (.bool false), .lit (.bool false), .lit (.int .i64 0), .list false 1 []]).upd p1 [.lit (.int .i64 0), .lit (.bool false), .lit (.bool false), .lit (.bool false), .lit (.int .i64 0), .list true 1 []]) p1=some [.lit (.int .i64 0), .lit (.bool false), .lit (.bool false), .lit (.bool false), .lit (.int .i64 0), .list true 1 []]:=by simp
   generalize hX:((σ.upd p _).upd p1 _)=ρ at*
   clear hX
   refine callK.of (unmodify_calls hL.prg) ?_
   rintro v σ' ⟨rfl,rfl⟩
   simp
   replace hL:=hL.put hs1.1
   replace hρp:=(putS_at (f:=spO) (σ:=ρ) (s:=unmodS s) d1.1 d1.2).trans hρp
   replace hρ1:=(putS_at (f:=spO) (σ:=ρ) (s:=unmodS s) d2.1 d2.2).trans hρ1
   generalize putS spO ρ q r (unmodS s)=ρ1 at*
   obtain ⟨r',s1,hL,hs1,hbeg,hr',d1,d2⟩:∃r' s1,Lv σ ρ1 q r' s1∧s1.good∧beginS s 1 (ctlOf (c::tl))=s1∧(r'=r∨σ r'=none)∧(¬p=q∧¬p=r')∧(¬p1=q∧¬p1=r'):=⟨_,_,hL,hs1.1,hbeg, .inl rfl,d1,d2⟩
 case' er=>
  intro hc
  have hbeg:=begin_e s cmd (ctlOf l) hc
  have hs1:(s.clear (decide (cmd=3))).good:=Sp.clear_good h.good.model _
  have hci:¬((cmd:Int)=1):=by omega
  have hc3:((cmd:Int)=3)↔cmd=3:=by omega
  rcases l with _|⟨c,tl⟩
  all_goals
   refine aw st38 pl38 59 Tryz.func38 rfl ?_
  case' cons=>
   have hcc:bytesA (c::tl)=byteA c::bytesA tl:=rfl
   have htk:(bytesA tl).take tl.length=bytesA tl:=by rw[←bytesA_length tl,List.take_length]
   simp+contextual [ite_free,hcc,htk,byteA_lit,hci]
  case' nil=>simp+contextual [ite_free,hci]
  all_goals
   intro p hp p1 n1 n2 hp1
   have f1:=h.fresh hp
   have f2:=h.fresh hp1
   have d1:¬p=q∧¬p=r:=f1.2.2
   have d2:¬p1=q∧¬p1=r:=f2.2.2
   have hL:Lv σ ((σ.upd p [.lit (.int .i64 cmd), .lit (.bool false), .lit (.bool false), .lit (.bool false), .lit (.int .i64 0), .list false 1 []]).upd p1 [.lit (.int .i64 0), .lit (.bool false), .lit (.bool false), .lit (.bool false), .lit (.int .i64 0), .list true 1 []]) q r s:=((Lv.refl h).new hp _).new (by simp[n1,hp1]) _
   have hρp:((σ.upd p [.lit (.int .i64 cmd), .lit (.bool false), .lit (.bool false), .lit (.bool false), .lit (.int .i64 0), .list false 1 []]).upd p1 [.lit (.int .i64 0), .lit (.bool false), .lit (.bool false), .lit (.bool false), .lit (.int .i64 0), .list true 1 []]) p=some [.lit (.int .i64 cmd), .lit (.bool false), .lit (.bool false), .lit (.bool false), .lit (.int .i64 0), .list false 1 []]:=by simp[n2]
   have hρ1:((σ.upd p [.lit (.int .i64 cmd), .lit (.bool false), .lit (.bool false), .lit (.bool false), .lit (.int .i64 0), .list false 1 []]).upd p1 [.lit (.int .i64 0), .lit (.bool false), .lit (.bool false), .lit (.bool false), .lit (.int .i64 0), .list true 1 []]) p1=some [.lit (.int .i64 0), .lit (.bool false), .lit (.bool false), .lit (.bool false), .lit (.int .i64 0), .list true 1 []]:=by simp
   generalize hX:((σ.upd p _).upd p1 _)=ρ at*
   clear hX
   have hsub:Store.sub σ ρ:=by have:=hL.sub;rwa[h.put_self] at this
   have ho:=hL.prg.obj
   unfold spO at ho
   have hbq:((cmd:Int)==3)=decide (cmd=3):=by rw[Bool.eq_iff_iff];simp;omega
   rw[hbq]
   refine callK.of (clear_calls (decide (cmd=3)) h.good.model ho) ?_
   rintro v σ' ⟨rfl,pp,hpp,rfl⟩
   have gpp:=hL.prg.fresh hpp
   have k1:¬p=pp:=by rintro rfl;rw[hρp] at hpp;cases hpp
   have k2:¬p1=pp:=by rintro rfl;rw[hρ1] at hpp;cases hpp
   have hrpp:σ pp=none:=by
    rcases hsub pp with a|a
    ·exact a
    ·rw[a];exact hpp
   replace hL:=clear_lv hsub gpp.1 hs1
   replace hρp:=(putS_at (f:=spO) (σ:=ρ) (s:=s.clear (decide (cmd=3))) d1.1 k1).trans hρp
   replace hρ1:=(putS_at (f:=spO) (σ:=ρ) (s:=s.clear (decide (cmd=3))) d2.1 k2).trans hρ1
   clear ho hsub
   simp
   generalize putS spO ρ q pp (s.clear (decide (cmd=3)))=ρ2 at*
  case' cons=>
   obtain ⟨r',s1,hL,hs1,hbeg,hr',d1,d2⟩:∃r' s1,Lv σ ρ2 q r' s1∧s1.good∧beginS s cmd (ctlOf (c::tl))=s1∧(r'=r∨σ r'=none)∧(¬p=q∧¬p=r')∧(¬p1=q∧¬p1=r'):=⟨_,_,hL,hs1,hbeg, .inr hrpp,⟨d1.1,k1⟩,⟨d2.1,k2⟩⟩
  case' nil=>
   obtain ⟨r',s1,hL,hs1,hbeg,hr',d1,d2⟩:∃r' s1,Lv σ ρ2 q r' s1∧s1.good∧beginS s cmd (ctlOf [])=s1∧(r'=r∨σ r'=none)∧(¬p=q∧¬p=r')∧(¬p1=q∧¬p1=r'):=⟨_,_,hL,hs1,hbeg, .inr hrpp,⟨d1.1,k1⟩,⟨d2.1,k2⟩⟩
 case' wu=>skip
 case' er.cons=>
  have hpf:penF s cmd (c::tl)=ordS tl (pen0 s1 (wrap s1.n s1.cursor)) 0:=by unfold penF;rw[hbeg];rfl
  have hor:=fun τ (hτ:Prg τ q r' s1)=>orders_calls hτ false tl (by simp at hl;omega) s1.cursor
  have ha2:pureBin .and (.int .u8 (c.toNat:Int)) (.int .u8 2)=some (.int .u8 ((c&&&2).toNat:Int)):=and_u8 c 2
  have ha4:pureBin .and (.int .u8 (c.toNat:Int)) (.int .u8 4)=some (.int .u8 ((c&&&4).toNat:Int)):=and_u8 c 4
  have ha64:pureBin .and (.int .u8 (c.toNat:Int)) (.int .u8 64)=some (.int .u8 ((c&&&64).toNat:Int)):=and_u8 c 64
  have hbq:=bit_ne c
  generalize hx:ordS tl (pen0 s1 (wrap s1.n s1.cursor)) 0=x at*
 case' wn.cons=>
  have hpf:penF s 1 (c::tl)=ordS tl (pen0 s1 (wrap s1.n s1.cursor)) 0:=by unfold penF;rw[hbeg];rfl
  have hor:=fun τ (hτ:Prg τ q r' s1)=>orders_calls hτ false tl (by simp at hl;omega) s1.cursor
  have ha2:pureBin .and (.int .u8 (c.toNat:Int)) (.int .u8 2)=some (.int .u8 ((c&&&2).toNat:Int)):=and_u8 c 2
  have ha4:pureBin .and (.int .u8 (c.toNat:Int)) (.int .u8 4)=some (.int .u8 ((c&&&4).toNat:Int)):=and_u8 c 4
  have ha64:pureBin .and (.int .u8 (c.toNat:Int)) (.int .u8 64)=some (.int .u8 ((c&&&64).toNat:Int)):=and_u8 c 64
  have hbq:=bit_ne c
  generalize hx:ordS tl (pen0 s1 (wrap s1.n s1.cursor)) 0=x at*
 case' wu=>
  have hpf:penF s 1 (c::tl)=ordS tl (pen0 s1 (wrap s1.n s1.cursor)) 0:=by unfold penF;rw[hbeg];rfl
  have hor:=fun τ (hτ:Prg τ q r' s1)=>orders_calls hτ false tl (by simp at hl;omega) s1.cursor
  have ha2:pureBin .and (.int .u8 (c.toNat:Int)) (.int .u8 2)=some (.int .u8 ((c&&&2).toNat:Int)):=and_u8 c 2
  have ha4:pureBin .and (.int .u8 (c.toNat:Int)) (.int .u8 4)=some (.int .u8 ((c&&&4).toNat:Int)):=and_u8 c 4
  have ha64:pureBin .and (.int .u8 (c.toNat:Int)) (.int .u8 64)=some (.int .u8 ((c&&&64).toNat:Int)):=and_u8 c 64
  have hbq:=bit_ne c
  generalize hx:ordS tl (pen0 s1 (wrap s1.n s1.cursor)) 0=x at*
 case' er.nil=>
  have hpf:penF s cmd []=ordS [] (pen0 s1 (wrap s1.n s1.cursor)) 0:=by unfold penF;rw[hbeg];rfl
  have hor:=fun τ (hτ:Prg τ q r' s1)=>orders_calls hτ false [] (by simp) s1.cursor
  have ha2:pureBin .and (.int .u8 0) (.int .u8 2)=some (.int .u8 0):=rfl
  have ha4:pureBin .and (.int .u8 0) (.int .u8 4)=some (.int .u8 0):=rfl
  have ha64:pureBin .and (.int .u8 0) (.int .u8 64)=some (.int .u8 0):=rfl
  have hbq:=bit_ne 0
  generalize hx:ordS [] (pen0 s1 (wrap s1.n s1.cursor)) 0=x at*
 case' wn.nil=>
  have hpf:penF s 1 []=ordS [] (pen0 s1 (wrap s1.n s1.cursor)) 0:=by unfold penF;rw[hbeg];rfl
  have hor:=fun τ (hτ:Prg τ q r' s1)=>orders_calls hτ false [] (by simp) s1.cursor
  have ha2:pureBin .and (.int .u8 0) (.int .u8 2)=some (.int .u8 0):=rfl
  have ha4:pureBin .and (.int .u8 0) (.int .u8 4)=some (.int .u8 0):=rfl
  have ha64:pureBin .and (.int .u8 0) (.int .u8 64)=some (.int .u8 0):=rfl
  have hbq:=bit_ne 0
  generalize hx:ordS [] (pen0 s1 (wrap s1.n s1.cursor)) 0=x at*
 all_goals
  have hxg:x.1.s.good:=by rw[←hx];exact (PenOk.ordN _ _ _ ⟨SameN.refl hs1,pen0_lt s1 s1.cursor⟩).same.1
  clear hx
  obtain ⟨pen,k,e⟩:=x
  refine callK.of (cursor_calls hL.prg) ?_
  rintro v σ' ⟨rfl,rfl⟩
  simp
  refine callK.of (hor _ hL.prg) ?_
  rintro v σ' ⟨rfl,rfl⟩
  replace hL:=hL.put hxg
  replace hρp:=(putS_at (f:=spO) (σ:=_) (s:=pen.s) d1.1 d1.2).trans hρp
  replace hρ1:=(putS_at (f:=spO) (σ:=_) (s:=pen.s) d2.1 d2.2).trans hρ1
  have hL2:=hL.sub
  rw[hpf]
  simp only at hL hρp hρ1 hL2
  by_cases he:e=0
  ·simp[he,hρp,hρ1,n1,ha2,ha4,ha64,hbq,hpf,resF,resC,ctlOf, -e_pureBin_8, -UInt8.toNat_and]
   refine ⟨_,AV.le_refl _,putS spO σ q r' pen.s,Store.sub2 (fun o=> ?_) (fun i=>by simpa using hL2 (mkey i)),rfl, ?_⟩
   ·by_cases o1:o=p1
    ·left;rw[o1,putS_at d2.1 d2.2];exact hp1
    ·by_cases o2:o=p
     ·left;rw[o2,putS_at d1.1 d1.2];exact hp
     ·have:=hL2 o
      simpa[o1,o2] using this
   ·rcases hr' with e1|e1
    ·left;rw[e1]
    ·right;exact ⟨r',e1,rfl⟩
  ·simp[he,hρp,hρ1,n1,hpf,resF,resC,ctlOf]
   refine ⟨_,AV.le_refl _,putS spO σ q r' pen.s,Store.sub2 (fun o=> ?_) (fun i=>by simpa using hL2 (mkey i)),rfl, ?_⟩
   ·by_cases o1:o=p1
    ·left;rw[o1,putS_at d2.1 d2.2];exact hp1
    ·by_cases o2:o=p
     ·left;rw[o2,putS_at d1.1 d1.2];exact hp
     ·have:=hL2 o
      simpa[o1,o2] using this
   ·rcases hr' with e1|e1
    ·left;rw[e1]
    ·right;exact ⟨r',e1,rfl⟩
structure Ran where
 s:Sp
 x:Res
 fields:List UInt8
 err:Nat
def ranCmd (s:Sp) (k:Nat) (l:List UInt8):Ran:=
 if k=1∨k=2∨k=3 then ⟨(penF s k l).1.s,resF s k l,[],(penF s k l).2.2⟩
 else if k=4 then ⟨unprotS s,⟨4,true,false,false,0⟩,[],0⟩
 else if k=8 then ⟨s,⟨8,false,false,false,0⟩,l,0⟩
 else ⟨s,⟨k,false,false,false,0⟩,[],0⟩
def runS (s:Sp):List UInt8→Ran
 |[]=>⟨s,⟨0,false,false,false,0⟩,[],0⟩
 |c::l=>if (cmdF c).2=true then ranCmd s (cmdF c).1 l else ⟨s,⟨0,false,false,false,0⟩,[],11⟩
def ranA (x:Ran):AV:= .tuple [.agg (resC x.x (.list false 1 (bytesA x.fields))), .lit (.int .i64 x.err)]
def RanR (σ:Store) (q r:Nat) (x:Ran) (v:AV) (σ':Store):Prop:=v=ranA x∧∃r',(r'=r∨σ r'=none)∧σ'=putS spO σ q r' x.s
theorem ranR_goal {σ σ':Store} {q r:Nat} {x:Ran} {v:AV} {r':Nat} (hv:v.le (ranA x)) (hr:r'=r∨σ r'=none) (hs:Store.sub (putS spO σ q r' x.s) σ'):∃v',v.le v'∧∃y,Store.sub y σ'∧RanR σ q r x v' y:=
 ⟨_,hv,_,hs,rfl,r',hr,rfl⟩
theorem run_sub {σ:Store} {q r' p p1:Nat} {s:Sp} (hp:σ p=none) (hp1:σ p1=none) (_n:¬p1=p) (d1:¬p=q) (d2:¬p1=q) (d3:¬p=r') (d4:¬p1=r') (X Y:List AV) {Z:List AV} :
  Store.sub (putS spO σ q r' s) ((putS spO ((σ.upd p X).upd p1 Y) q r' s).upd p Z):=by
 refine Store.sub2 (fun o=> ?_) (fun i=>by simp[putS])
 by_cases o1:o=p1
 ·left;rw[o1,putS_at d2 d4];exact hp1
 ·by_cases o2:o=p
  ·left;rw[o2,putS_at d1 d3];exact hp
  ·right;simp[putS,o1,o2]
theorem run_sub2 {σ:Store} {q r' p p1:Nat} {s:Sp} (hp:σ p=none) (hp1:σ p1=none) (_n:¬p1=p) (d1:¬p=q) (d2:¬p1=q) (d3:¬p=r') (d4:¬p1=r') (X Y:List AV) {Z W:List AV} :
  Store.sub (putS spO σ q r' s) (((putS spO ((σ.upd p X).upd p1 Y) q r' s).upd p1 W).upd p Z):=by
 refine Store.sub2 (fun o=> ?_) (fun i=>by simp[putS])
 by_cases o1:o=p1
 ·left;rw[o1,putS_at d2 d4];exact hp1
 ·by_cases o2:o=p
  ·left;rw[o2,putS_at d1 d3];exact hp
  ·right;simp[putS,o1,o2]
theorem run_calls {q r:Nat} {s:Sp} {σ:Store} (h:Prg σ q r s) (o:Bool) (l:List UInt8) (hl:l.length≤1000000000):
  ACalls Tryz.prog 11 [ptrA q, .list o 1 (bytesA l)] σ (RanR σ q r (runS s l)):=by
 rcases l with _|⟨c,l⟩
 ·refine aw st11 pl11 54 Tryz.func11 rfl ?_
  simp
  intro p hp
  refine ranR_goal (r':=r) (AV.le_refl _) (.inl rfl) ?_
  show Store.sub (putS spO σ q r s) _
  rw[h.put_self]
  exact Store.sub_upd hp (Store.sub_refl _)
 have hcc:bytesA (c::l)=byteA c::bytesA l:=rfl
 have hcm:=fun τ=>command_calls c τ
 have hru:runS s (c::l)=if (cmdF c).2=true then ranCmd s (cmdF c).1 l else ⟨s,⟨0,false,false,false,0⟩,[],11⟩:=rfl
 generalize cmdF c=x at*
 obtain ⟨k,b⟩:=x
 simp only at hcm hru
 rw[hru]
 have hl1:¬((l.length:Int)+1=0):=by omega
 simp only[List.length_cons] at hl
 cases b
 ·refine aw st11 pl11 54 Tryz.func11 rfl ?_
  simp[hcc,hl1]
  intro p hp
  refine callK.of (hcm _) ?_
  rintro v σ' ⟨rfl,rfl⟩
  simp
  refine ranR_goal (r':=r) (AV.le_refl _) (.inl rfl) ?_
  show Store.sub (putS spO σ q r s) _
  rw[h.put_self]
  (intro q;simp only[Store.upd,Store.del];(repeat' split)<;>first|exact Or.inr rfl|exact Or.inl rfl|(exfalso;omega)|(left;subst_vars;assumption)|simp_all)
 rw[if_pos rfl]
 unfold ranCmd
 refine aw st11 pl11 54 Tryz.func11 rfl ?_
 simp[hcc,hl1]
 intro p hp
 refine callK.of (hcm _) ?_
 rintro v σ' ⟨rfl,rfl⟩
 have htk:(bytesA l).take l.length=bytesA l:=by rw[←bytesA_length l,List.take_length]
 have f1:=h.fresh hp
 by_cases h1:k=1∨k=2∨k=3
 ·rw[if_pos h1]
  have hwr:=fun τ (hτ:Prg τ q r s)=>written_calls hτ k false l (by omega)
  generalize hS:(penF s k l).1.s=S at*
  generalize hX:resF s k l=X at*
  generalize hE:(penF s k l).2.2=E at*
  clear hS hX hE
  rcases h1 with rfl|rfl|rfl
  all_goals
   simp+contextual [ite_free,htk]
   intro p1 n1 n2 hp1
   have f2:=h.fresh hp1
   refine callK.of (hwr _ ((h.new hp _).new (by simp[n1,hp1]) _)) ?_
   rintro v σ' ⟨rfl,r',hr',rfl⟩
   have g:(r'=r∨σ r'=none)∧¬p=r'∧¬p1=r':=by
    rcases hr' with e|e
    ·rw[e];exact ⟨.inl rfl,f1.2.2.2,f2.2.2.2⟩
    ·simp only[supd_apply,ite_none] at e
     exact ⟨.inr e.2.2,fun a=>e.2.1 a.symm,fun a=>e.1 a.symm⟩
   simp[resC,putS_at f1.2.2.1 g.2.1,n2]
   refine ranR_goal (r':=r') (AV.le_refl _) g.1 (run_sub hp hp1 n1 f1.2.2.1 f2.2.2.1 g.2.1 g.2.2 _ _)
 ·rw[if_neg h1]
  have e1:¬k=1:=fun e=>h1 (.inl e)
  have e2:¬k=2:=fun e=>h1 (.inr (.inl e))
  have e3:¬k=3:=fun e=>h1 (.inr (.inr e))
  have i1:¬(k:Int)=1:=by omega
  have i2:¬(k:Int)=2:=by omega
  have i3:¬(k:Int)=3:=by omega
  by_cases e4:k=4
  ·subst e4
   simp+contextual [ite_free]
   intro p1 n1 n2 hp1
   have f2:=h.fresh hp1
   refine callK.of (unprotected_calls ((h.new hp _).new (by simp[n1,hp1]) _)) ?_
   rintro v σ' ⟨rfl,rfl⟩
   simp[putS_at f1.2.2.1 f1.2.2.2,putS_at f2.2.2.1 f2.2.2.2,n2]
   refine ranR_goal (r':=r) (AV.le_refl _) (.inl rfl) (run_sub2 hp hp1 n1 f1.2.2.1 f2.2.2.1 f1.2.2.2 f2.2.2.2 _ _)
  have i4:¬(k:Int)=4:=by omega
  by_cases e8:k=8
  ·subst e8
   simp+contextual [ite_free,htk]
   intro p1 n1 n2 hp1
   have f2:=h.fresh hp1
   refine callK.of (clone_calls false l _ (by omega)) ?_
   rintro v σ' ⟨rfl,rfl⟩
   simp[n2]
   refine ranR_goal (r':=r) (AV.le_refl _) (.inl rfl) ?_
   show Store.sub (putS spO σ q r s) _
   rw[h.put_self]
   (intro q;simp only[Store.upd,Store.del];(repeat' split)<;>first|exact Or.inr rfl|exact Or.inl rfl|(exfalso;omega)|(left;subst_vars;assumption)|simp_all)
  have i8:¬(k:Int)=8:=by omega
  simp+contextual [ite_free,i1,i2,i3,i4,i8,e4,e8]
  intro p1 n1 n2 hp1
  refine ranR_goal (r':=r) (AV.le_refl _) (.inl rfl) ?_
  show Store.sub (putS spO σ q r s) _
  rw[h.put_self]
  (intro q;simp only[Store.upd,Store.del];(repeat' split)<;>first|exact Or.inr rfl|exact Or.inl rfl|(exfalso;omega)|(left;subst_vars;assumption)|simp_all)
theorem runsix_calls (b:UInt8) (σ:Store):ACalls Tryz.prog 109 [byteA b] σ fun v σ'=>v= .lit (.int .i64 (unsix b))∧σ'=σ:=by
 refine aw st109 pl109 16 Tryz.func109 rfl ?_
 simp
 refine codeK.loop follows (st:=st109) (plans:=pl109) (X:=Nat) (fun i=>i≤64∧∀j,j<i→sixR j≠b)
  (fun i=>[(0,byteA b),(3, .lit (.int .i64 i))]) (fun _=>σ) (fun i=>64-i) 0 (by kernel_rfl) (by simp) (by simp) (by simp) fun i hi=> ?_
 obtain ⟨hi,hk⟩:=hi
 by_cases hlt:i<64
 ·have hw:IntKind.i64.wrap ((i:Int)+1)=((i+1:Nat):Int):=wrap_i64 (by omega) (by omega)
  have hlt':(i:Int)<64:=by omega
  have hs:=six4_calls i (by omega)
  rw[six_small hlt] at hs
  have hf:=fun h=>unsix_found (b:=b) hlt h hk
  have hstep:sixR i≠b→∀j,j<i+1→sixR j≠b:=fun hne j hj=>by
   by_cases hji:j=i
   ·subst hji;exact hne
   ·exact hk j (by omega)
  generalize sixR i=x at*
  by_cases he:x=b
  ·have hf':=hf he
   subst he
   simp[hlt']
   refine callK.of (hs σ) ?_
   rintro v σ' ⟨rfl,rfl⟩
   simp[byteA,hf']
  ·have he':¬(x.toNat:Int)=(b.toNat:Int):=fun h=>he (UInt8.toNat_inj.1 (by omega))
   simp[hlt']
   refine callK.of (hs σ) ?_
   rintro v σ' ⟨rfl,rfl⟩
   simp[byteA,he']
   exact ⟨i+1,⟨by omega,hstep he⟩,by omega,by rw[hw];exact AV.le_refl _⟩
 ·obtain rfl:i=64:=by omega
  have hn:=unsix_none hk
  have ht:(b.toNat:Int).tmod 64=((unsix b:Nat):Int):=by rw[hn];rfl
  have hw:IntKind.i64.wrap ((unsix b:Nat):Int)=((unsix b:Nat):Int):=wrap_i64 (by omega) (by have:=unsix_lt b;omega)
  simp[byteA,wrapB,ht,hw]
theorem rdec_core (o:Bool) (a b:UInt8) (L:List AV) (x y:Nat) (hx:x<64) (hy:y<64) (gl0:0<L.length) (gl1:1<L.length) (e0:L[0]=byteA a) (e1:L[1]=byteA b) (h64:¬a.toNat<64) (h2:a.toNat<128∨192≤a.toNat)
  (s1:∀σ,ACalls Tryz.prog 109 [byteA a] σ fun v σ'=>v= .lit (.int .i64 x)∧σ'=σ) (s2:∀σ,ACalls Tryz.prog 109 [byteA b] σ fun v σ'=>v= .lit (.int .i64 y)∧σ'=σ) (σ:Store):
  ACalls Tryz.prog 92 [.lit (.int .i64 12), .list o 1 L] σ fun v σ'=>v= .tuple [.lit (.int .i64 (x*64+y:Nat)), .lit (.int .i64 0)]∧σ'=σ:=by
 have gl2:¬((L.length:Int)<2):=by omega
 have wa:=wrapB a
 have wb:=wrapB b
 have hb:=b.toNat_lt
 have ha:=a.toNat_lt
 have w1:IntKind.i64.wrap (256*(a.toNat:Int))=256*(a.toNat:Int):=wrap_i64 (by omega) (by omega)
 have w2:IntKind.i64.wrap (256*(a.toNat:Int)+(b.toNat:Int))=256*(a.toNat:Int)+(b.toNat:Int):=wrap_i64 (by omega) (by omega)
 have w3:IntKind.i64.wrap (64*(x:Int))=64*(x:Int):=wrap_i64 (by omega) (by omega)
 have w4:IntKind.i64.wrap (64*(x:Int)+(y:Int))=((x*64+y:Nat):Int):=by rw[wrap_i64 (by omega) (by omega)];omega
 have h64':¬(a.toNat:Int)<64:=by omega
 refine aw st92 pl92 59 Tryz.func92 rfl ?_
 by_cases h3:128≤a.toNat
 ·have h3':(128:Int)≤a.toNat:=by omega
  have h4:¬a.toNat<192:=by omega
  have h4':¬(a.toNat:Int)<192:=by omega
  simp[gl2,gl0,gl1,e0,e1,byteA,wa,wb,w1,w2,h64,h64',h3,h3',h4,h4']
  refine ⟨callK.of (s1 _) ?_,callK.of (s1 _) ?_⟩
  all_goals
   rintro v σ' ⟨rfl,rfl⟩
   simp[w3]
   refine callK.of (s2 _) ?_
   rintro v σ' ⟨rfl,rfl⟩
   simp[w4]
 ·have h3':¬(128:Int)≤a.toNat:=by omega
  simp[gl2,gl0,gl1,e0,e1,byteA,wa,wb,w1,w2,h64,h64',h3,h3']
  refine ⟨callK.of (s1 _) ?_,callK.of (s1 _) ?_⟩
  all_goals
   rintro v σ' ⟨rfl,rfl⟩
   simp[w3]
   refine callK.of (s2 _) ?_
   rintro v σ' ⟨rfl,rfl⟩
   simp[w4]
theorem mem_done {L:List UInt8} {v:UInt8} (h:∀j (hj:j<L.length),j<L.length→L[j]≠v):v∉L:=fun hm=>by
 obtain ⟨j,hj,rfl⟩:=List.getElem_of_mem hm
 exact h j hj hj rfl
theorem right_calls (t v:UInt8) (σ:Store):ACalls Tryz.prog 29 [.agg [byteA t,byteA v]] σ fun r σ'=>r= .lit (.bool (decide (okP t.toNat v.toNat)))∧σ'=σ:=by
 have ht:=byteA_lit t
 have hv:=byteA_lit v
 refine aw st29 pl29 33 Tryz.func29 rfl ?_
 by_cases h0:(t.toNat:Int)=0
 ·have hx:v∈([0]:List UInt8)↔okP t.toNat v.toNat:=by
   have e:t.toNat=0:=by omega
   rw[e]
   exact all_bytes (p:=fun v=>v∈([0]:List UInt8)↔okP 0 v.toNat) (by decide+kernel) v
  have hlen:([0]:List UInt8).length=1:=rfl
  have hlit:[AV.lit (.int .u8 0)]=bytesA [0]:=rfl
  generalize ([0]:List UInt8)=L at*
  rw[ht,h0]
  simp
  intro p hp
  rw[hlit]
  refine codeK.loop follows (st:=st29) (plans:=pl29) (X:=Nat) (fun i=>i≤L.length∧∀j (hj:j<L.length),j<i→L[j]≠v)
   (fun i=>[(1,ptrA p),(22, .list false 1 (bytesA L)),(23, .lit (.int .i64 L.length)),(24, .lit (.int .i64 i))]) (fun _=>σ.upd p [.lit (.int .u8 0),byteA v]) (fun i=>L.length-i) 0 (by kernel_rfl) (by simp) (by simp[hlen]) (Store.sub_refl _) fun i hi=> ?_
  obtain ⟨hi,hk⟩:=hi
  by_cases hlt:i<L.length
  ·have hw:IntKind.i64.wrap ((i:Int)+1)=((i+1:Nat):Int):=wrap_i64 (by omega) (by omega)
   have hg:=bytesA_at L i hlt
   have hnx:L[i]≠v→∀j (hj:j<L.length),j<i+1→L[j]≠v:=fun h j hj hji=>by
    by_cases e:j=i
    ·subst e;exact h
    ·exact hk j hj (by omega)
   have hin:L[i]=v→v∈L:=fun h=>h▸List.getElem_mem hlt
   generalize L[i]=b at*
   by_cases hb:b=v
   ·have ho:=hx.1 (hin hb)
    subst hb
    simp[hlt,hg,hv,ho]
    exact sub_upd_self _ _ _ hp
   ·have hb':¬(b.toNat:Int)=v.toNat:=fun h=>hb (UInt8.toNat_inj.1 (by omega))
    simp[hlt,hg,hv,byteA_lit b,hb']
    exact ⟨i+1,⟨by omega,hnx hb⟩,by omega,by rw[hw];exact AV.le_refl _⟩
  ·obtain rfl:i=L.length:=by omega
   have ho:¬okP t.toNat v.toNat:=fun h=>mem_done hk (hx.2 h)
   simp[ho]
   exact sub_upd_self _ _ _ hp
 by_cases h192:(t.toNat:Int)=192
 ·have ho:okP t.toNat v.toNat:=by unfold okP;omega
  rw[ht,h192]
  simp[ho]
  exact fun p hp=>sub_upd_self _ _ _ hp
 by_cases h65:(t.toNat:Int)=65
 ·have hx:v∈([0,240,241,242,244,248]:List UInt8)↔okP t.toNat v.toNat:=by
   have e:t.toNat=65:=by omega
   rw[e]
   exact all_bytes (p:=fun v=>v∈([0,240,241,242,244,248]:List UInt8)↔okP 65 v.toNat) (by decide+kernel) v
  have hlen:([0,240,241,242,244,248]:List UInt8).length=6:=rfl
  have hlit:[AV.lit (.int .u8 0),AV.lit (.int .u8 240),AV.lit (.int .u8 241),AV.lit (.int .u8 242),AV.lit (.int .u8 244),AV.lit (.int .u8 248)]=bytesA [0,240,241,242,244,248]:=rfl
  generalize ([0,240,241,242,244,248]:List UInt8)=L at*
  rw[ht,h65]
  simp
  intro p hp
  rw[hlit]
  refine codeK.loop follows (st:=st29) (plans:=pl29) (X:=Nat) (fun i=>i≤L.length∧∀j (hj:j<L.length),j<i→L[j]≠v)
   (fun i=>[(1,ptrA p),(22, .list false 1 (bytesA L)),(23, .lit (.int .i64 L.length)),(24, .lit (.int .i64 i))]) (fun _=>σ.upd p [.lit (.int .u8 65),byteA v]) (fun i=>L.length-i) 0 (by kernel_rfl) (by simp) (by simp[hlen]) (Store.sub_refl _) fun i hi=> ?_
  obtain ⟨hi,hk⟩:=hi
  by_cases hlt:i<L.length
  ·have hw:IntKind.i64.wrap ((i:Int)+1)=((i+1:Nat):Int):=wrap_i64 (by omega) (by omega)
   have hg:=bytesA_at L i hlt
   have hnx:L[i]≠v→∀j (hj:j<L.length),j<i+1→L[j]≠v:=fun h j hj hji=>by
    by_cases e:j=i
    ·subst e;exact h
    ·exact hk j hj (by omega)
   have hin:L[i]=v→v∈L:=fun h=>h▸List.getElem_mem hlt
   generalize L[i]=b at*
   by_cases hb:b=v
   ·have ho:=hx.1 (hin hb)
    subst hb
    simp[hlt,hg,hv,ho]
    exact sub_upd_self _ _ _ hp
   ·have hb':¬(b.toNat:Int)=v.toNat:=fun h=>hb (UInt8.toNat_inj.1 (by omega))
    simp[hlt,hg,hv,byteA_lit b,hb']
    exact ⟨i+1,⟨by omega,hnx hb⟩,by omega,by rw[hw];exact AV.le_refl _⟩
  ·obtain rfl:i=L.length:=by omega
   have ho:¬okP t.toNat v.toNat:=fun h=>mem_done hk (hx.2 h)
   simp[ho]
   exact sub_upd_self _ _ _ hp
 by_cases h66:(t.toNat:Int)=66
 ·have hx:v∈([0,241,242,243,244,245,246,247]:List UInt8)↔okP t.toNat v.toNat:=by
   have e:t.toNat=66:=by omega
   rw[e]
   exact all_bytes (p:=fun v=>v∈([0,241,242,243,244,245,246,247]:List UInt8)↔okP 66 v.toNat) (by decide+kernel) v
  have hlen:([0,241,242,243,244,245,246,247]:List UInt8).length=8:=rfl
  have hlit:[AV.lit (.int .u8 0),AV.lit (.int .u8 241),AV.lit (.int .u8 242),AV.lit (.int .u8 243),AV.lit (.int .u8 244),AV.lit (.int .u8 245),AV.lit (.int .u8 246),AV.lit (.int .u8 247)]=bytesA [0,241,242,243,244,245,246,247]:=rfl
  generalize ([0,241,242,243,244,245,246,247]:List UInt8)=L at*
  rw[ht,h66]
  simp
  intro p hp
  rw[hlit]
  refine codeK.loop follows (st:=st29) (plans:=pl29) (X:=Nat) (fun i=>i≤L.length∧∀j (hj:j<L.length),j<i→L[j]≠v)
   (fun i=>[(1,ptrA p),(22, .list false 1 (bytesA L)),(23, .lit (.int .i64 L.length)),(24, .lit (.int .i64 i))]) (fun _=>σ.upd p [.lit (.int .u8 66),byteA v]) (fun i=>L.length-i) 0 (by kernel_rfl) (by simp) (by simp[hlen]) (Store.sub_refl _) fun i hi=> ?_
  obtain ⟨hi,hk⟩:=hi
  by_cases hlt:i<L.length
  ·have hw:IntKind.i64.wrap ((i:Int)+1)=((i+1:Nat):Int):=wrap_i64 (by omega) (by omega)
   have hg:=bytesA_at L i hlt
   have hnx:L[i]≠v→∀j (hj:j<L.length),j<i+1→L[j]≠v:=fun h j hj hji=>by
    by_cases e:j=i
    ·subst e;exact h
    ·exact hk j hj (by omega)
   have hin:L[i]=v→v∈L:=fun h=>h▸List.getElem_mem hlt
   generalize L[i]=b at*
   by_cases hb:b=v
   ·have ho:=hx.1 (hin hb)
    subst hb
    simp[hlt,hg,hv,ho]
    exact sub_upd_self _ _ _ hp
   ·have hb':¬(b.toNat:Int)=v.toNat:=fun h=>hb (UInt8.toNat_inj.1 (by omega))
    simp[hlt,hg,hv,byteA_lit b,hb']
    exact ⟨i+1,⟨by omega,hnx hb⟩,by omega,by rw[hw];exact AV.le_refl _⟩
  ·obtain rfl:i=L.length:=by omega
   have ho:¬okP t.toNat v.toNat:=fun h=>mem_done hk (hx.2 h)
   simp[ho]
   exact sub_upd_self _ _ _ hp
 by_cases h67:(t.toNat:Int)=67
 ·have hx:v∈([0,241]:List UInt8)↔okP t.toNat v.toNat:=by
   have e:t.toNat=67:=by omega
   rw[e]
   exact all_bytes (p:=fun v=>v∈([0,241]:List UInt8)↔okP 67 v.toNat) (by decide+kernel) v
  have hlen:([0,241]:List UInt8).length=2:=rfl
  have hlit:[AV.lit (.int .u8 0),AV.lit (.int .u8 241)]=bytesA [0,241]:=rfl
  generalize ([0,241]:List UInt8)=L at*
  rw[ht,h67]
  simp
  intro p hp
  rw[hlit]
  refine codeK.loop follows (st:=st29) (plans:=pl29) (X:=Nat) (fun i=>i≤L.length∧∀j (hj:j<L.length),j<i→L[j]≠v)
   (fun i=>[(1,ptrA p),(22, .list false 1 (bytesA L)),(23, .lit (.int .i64 L.length)),(24, .lit (.int .i64 i))]) (fun _=>σ.upd p [.lit (.int .u8 67),byteA v]) (fun i=>L.length-i) 0 (by kernel_rfl) (by simp) (by simp[hlen]) (Store.sub_refl _) fun i hi=> ?_
  obtain ⟨hi,hk⟩:=hi
  by_cases hlt:i<L.length
  ·have hw:IntKind.i64.wrap ((i:Int)+1)=((i+1:Nat):Int):=wrap_i64 (by omega) (by omega)
   have hg:=bytesA_at L i hlt
   have hnx:L[i]≠v→∀j (hj:j<L.length),j<i+1→L[j]≠v:=fun h j hj hji=>by
    by_cases e:j=i
    ·subst e;exact h
    ·exact hk j hj (by omega)
   have hin:L[i]=v→v∈L:=fun h=>h▸List.getElem_mem hlt
   generalize L[i]=b at*
   by_cases hb:b=v
   ·have ho:=hx.1 (hin hb)
    subst hb
    simp[hlt,hg,hv,ho]
    exact sub_upd_self _ _ _ hp
   ·have hb':¬(b.toNat:Int)=v.toNat:=fun h=>hb (UInt8.toNat_inj.1 (by omega))
    simp[hlt,hg,hv,byteA_lit b,hb']
    exact ⟨i+1,⟨by omega,hnx hb⟩,by omega,by rw[hw];exact AV.le_refl _⟩
  ·obtain rfl:i=L.length:=by omega
   have ho:¬okP t.toNat v.toNat:=fun h=>mem_done hk (hx.2 h)
   simp[ho]
   exact sub_upd_self _ _ _ hp
 have ho:¬okP t.toNat v.toNat:=by unfold okP;omega
 have h0':¬t.toNat=0:=by omega
 rw[ht]
 simp[h0',h192,h65,h66,h67]
 intro p hp
 refine codeK.loop follows (st:=st29) (plans:=pl29) (X:=Unit) (fun _=>True)
  (fun _=>[(22, .list false 1 []),(23, .lit (.int .i64 0)),(24, .lit (.int .i64 0))]) (fun _=>σ.upd p [.lit (.int .u8 t.toNat),byteA v]) (fun _=>0) () (by kernel_rfl) trivial (by simp) (Store.sub_refl _) fun _ _=> ?_
 simp[ho]
 exact sub_upd_self _ _ _ hp
end Go.Proofs.YtjnopnpkfhopbaaGreatDoor
