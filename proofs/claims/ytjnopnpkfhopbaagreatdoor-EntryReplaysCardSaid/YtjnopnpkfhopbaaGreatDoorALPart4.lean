/-
 The abstract-state logic: make, parts of results, values that change hands; one operation under one name.
-/
import Derived.Test.YtjnopnpkfhopbaaGreatDoorALPart3
import Derived.Laws.CopyRow
import Derived.Orders
set_option linter.unusedSimpArgs false
set_option linter.unusedVariables false
set_option maxRecDepth 8000
set_option maxHeartbeats 8000000
namespace Go.AL
open Go Go.RowKit Classical
variable [GL]
set_option linter.unusedSectionVars false
theorem wrap_i64 {n:Int} (h0: -9223372036854775808≤n) (h1:n≤9223372036854775807):IntKind.i64.wrap n=n:=by
 have key:IntKind.i64.wrap n=if n % 18446744073709551616≥9223372036854775808 then n % 18446744073709551616-18446744073709551616 else n % 18446744073709551616:=by
  show (if (true&&decide (n % (2^64:Int)≥(2^63:Int)))=true then n % (2^64:Int)-(2^64:Int) else n % (2^64:Int))=_
  simp
 rw[key]
 split<;>omega
def aMake (P:Program) (byVal row:Bool) (t:TypeId) (l c:AV) (A:Slots) (σ:Store) (K:AV→Slots→Store→Prop):Prop:=
 match tElem P t,l,c with
 |some e, .lit (.int _ l), .lit (.int _ c)=>match tSize P e,tBytes P e,azero P e,zeroEl P e with
  |some sz,some bt,some zs,some z=>0≤l∧l≤c∧0<sz∧zs.length=sz∧z.cells.length=sz∧c≤9223372036854775807∧bt*c≤281474976710656∧
   (if byVal then K (.list true sz (List.replicate l.toNat z)) A σ else if row then∀p:Nat,σ p=none→K (.row p l.toNat) A (σ.upd p (List.replicate c.toNat zs).flatten) else
    ∀p:Nat,σ p=none→K (.lit (.slice (some ⟨p,0,none⟩) l.toNat c.toNat)) A (σ.upd p (List.replicate c.toNat zs).flatten))
  |_,_,_,_=>False
 |_,_,_=>False
theorem run_make {P:Program} {w:World} {t e:TypeId} (he:tElem P t=some e) {sz bt:Nat} (hs:tSize P e=some sz) (hb:tBytes P e=some bt) {z:Value} (hz:tZero P e=some z) (hzl:z.cells.size=sz) {kl kc:IntKind} {l c:Int}
  (h0:0≤l) (h1:l≤c) (h2:c≤9223372036854775807) (h3:bt*c≤281474976710656):
  ∃cur:Array Value,cur.toList=(List.replicate c.toNat z.cells.toList).flatten∧(Instr.makeSlice t (.int kl l) (.int kc c)).run P w= .ok (.slice (some ⟨w.heap.size,0,none⟩) l.toNat c.toNat) (w.alloc (.cells cur e)):=by
 obtain ⟨i,hi,hisz⟩:∃i,P.info? e=some i∧i.size=sz:=by
  unfold tSize at hs;cases hq:P.info? e with
  |none=>simp[hq] at hs
  |some i=>exact ⟨i,rfl,by simpa[hq] using hs⟩
 have hibt:i.bytes=bt:=by simpa[tBytes,hi] using hb
 subst hisz hibt
 refine ⟨(Array.range (c.toNat*i.size)).map (z.cells[· % z.cells.size]!), ?_, ?_⟩
 ·rw[←zeroCells_eq z.cells.toList i.size c.toNat (by simpa using hzl),hzl]
  simp only[Array.toList_map,Array.toList_range]
  apply List.map_congr_left
  intro j _
  rw[Array.getElem!_toList]
 ·have hl:¬(c<0∨281474976710656<(i.bytes:Int)*c):=by omega
  by_cases hn:c.toNat*i.size=0
  ·simp[Instr.makeSlice,run_underlying (under_elem he),asInt,asIntOf,typeInfo,hi,wrap_i64 (n:=l) (by omega) (by omega),wrap_i64 (n:=c) (by omega) (by omega),hl,show ¬l<0 by omega,show ¬c<l by omega,sizeOf,hn,newRow,Array.range_zero']
  ·simp[Instr.makeSlice,run_underlying (under_elem he),asInt,asIntOf,typeInfo,hi,wrap_i64 (n:=l) (by omega) (by omega),wrap_i64 (n:=c) (by omega) (by omega),hl,show ¬l<0 by omega,show ¬c<l by omega,sizeOf,hn,zeroValue,show i.zero=some z by simpa[tZero,hi] using hz,newRow]
theorem aMake_sound {P:Program} {D:Nat→Prop} {n:Nat} {G:Ghost} {A:Slots} {σ:Store} {a:Act} {w:World} (h:Rel D n G A σ a w) {o:Oper} {K:AV→Slots→Store→Prop} {bv row:Bool} {t:TypeId} {x y:Operand}
  (ho:o.op= .makeSlice t x y) (hK:aMake P bv row t (evalA A x) (evalA A y) A σ K):Does P D n G a w o K:=by
 unfold aMake at hK
 split at hK
 case h_2=>exact hK.elim
 rename_i e kl l kc c he hx hy
 split at hK
 case h_2=>exact hK.elim
 rename_i sz bt zs z hs hb hzs hz
 obtain ⟨h0,h1,hpos,hzsl,hzl,h2,h3,hK⟩:=hK
 have hxv:=h.eval x
 have hyv:=h.eval y
 rw[hx] at hxv;rw[hy] at hyv
 generalize hex:a.eval x=xv at hxv
 generalize hey:a.eval y=yv at hyv
 cases hxv;cases hyv
 obtain ⟨zv,hz1,hz2⟩:=azero_sound hzs G.F
 obtain ⟨zv',hz1',hz3⟩:=zeroEl_sound hz G.F
 rw[hz1] at hz1';simp only[Option.some.injEq] at hz1';subst hz1'
 have hzvl:zv.cells.size=sz:=by have:=hz2.1;simp at this;omega
 obtain ⟨cur,hcur,hrun⟩:=run_make (w:=w) (kl:=kl) (kc:=kc) he hs hb hz1 hzvl h0 h1 h2 h3
 have hrun':(execOp a.eval o).run P w= .ok (.value (.slice (some ⟨w.heap.size,0,none⟩) l.toNat c.toNat)) (w.alloc (.cells cur e)):=by
  simp[execOp,ho,hex,hey,hrun]
 cases bv with
 |false=>
  simp only[Bool.false_eq_true,if_false] at hK
  cases row with
  |false=>
   simp only[Bool.false_eq_true,if_false] at hK
   exact newObj_does h (cur:=cur) (e:=e) (by rw[hcur];exact hz2.rep _) (fun p=> .slice (some ⟨p,0,none⟩) l.toNat c.toNat) hK hrun'
  |true=>
   simp only[if_true] at hK
   exact newRow_does h (cur:=cur) (e:=e) (by rw[hcur];exact hz2.rep _) (by omega) hK hrun'
 |true=>
  simp only[if_true] at hK
  have hwr:∀v∈List.replicate l.toNat z,v.cells.length=sz:=fun v hv=>by rw[(List.mem_replicate.1 hv).2,hzl]
  have hcl:cur.size=c.toNat*sz:=by
   have:=congrArg List.length hcur
   simp only[Array.length_toList,List.length_flatten,List.map_replicate,List.sum_replicate_nat,hzvl] at this
   simpa using this
  obtain ⟨G',q1,q2,q3,q4,_⟩:=newList h cur e sz (List.replicate l.toNat z) c.toNat hcl.symm (by simp;omega) (by unfold maxLen;omega) hwr (List.replicate l.toNat zv.cells.toList).flatten (by rw[flat_replicate];exact hz3.rep _)
   (fun i u hu=>by
    have hcur':cur[i]?=cur.toList[i]?:=by simp
    rw[hcur',hcur]
    have:c.toNat=l.toNat+(c.toNat-l.toNat):=by omega
    rw[this,←List.replicate_append_replicate,List.flatten_append,List.getElem?_append_left (List.getElem?_eq_some_iff.1 hu).1];exact hu)
  rw[List.length_replicate] at q2 q3
  exact ⟨_,_,A,σ,G',_,hK, .inl hrun',q1,q2,q3,q4⟩
def AV.keep1:AV→AV
 | .list o sz vs=> .list o sz vs
 |v=>v.share
def aExtract (t:Tmp) (ix:Nat) (A:Slots) (σ:Store) (K:AV→Slots→Store→Prop):Prop:=
 match A t with
 | .tuple vs=>match vs[ix]? with
  |some v=>K v.keep1 (upd A t (.tuple (vs.set ix v.drop1))) σ
  |none=>False
 |_=>False
def fromSlotAt (t ix:Nat):Place→Place
 | .slot i j=>if i=t∧j=ix then .acc 0 else .slot i j
 |π=>π
theorem VR.keep1 {F:Frz} {a:AV} {v:Value} (h:VR F a v):VR F a.keep1 v:=by
 cases a<;>first
  |exact h.share
  |exact h
theorem aExtract_sound {P:Program} {D:Nat→Prop} {n:Nat} {G:Ghost} {A:Slots} {σ:Store} {a:Act} {w:World} (h:Rel D n G A σ a w) {o:Oper} {K:AV→Slots→Store→Prop} {t:Tmp} {ix:Nat}
  (ho:o.op= .extract (.tmp t) ix) (hK:aExtract t ix A σ K):Does P D n G a w o K:=by
 unfold aExtract at hK
 split at hK
 case h_2=>exact hK.elim
 rename_i vs hA
 split at hK
 case h_2=>exact hK.elim
 rename_i v hv
 have hx:=h.val t
 have hown:=h.own t
 rw[hA] at hx hown
 generalize hc:a.tmps.getD t undef=cv at hx hown
 cases hx with|tuple _ us hl hvr=> ?_
 have hlt:=(List.getElem?_eq_some_iff.1 hv).1
 have hu:us[ix]?=some (us[ix]'(by omega)):=by simp
 have hvv:=hvr ix v _ hv hu
 have hW:=h.world.mv (fromSlotAt t ix) (fun _ _=>rfl)
 refine ⟨_,us[ix],_,σ,G.mv D (fromSlotAt t ix),w,hK, .inl ?_,⟨h.defers,h.size,fun i=> ?_,fun i=> ?_,hW,h.fresh⟩,hvv.keep1, ?_,Ext.mv ..⟩
 ·have:a.eval (.tmp t)= .tuple us:=hc
  simp[execOp,ho,this,Instr.extract,hu]
 ·simp only[upd];split
  ·rename_i hi;subst hi
   rw[hc]
   refine .tuple _ us (by simpa using hl) fun j c u hcj huj=> ?_
   rw[List.getElem?_set] at hcj
   split at hcj
   ·rename_i hj;subst hj
    try rw[if_pos hlt] at hcj
    simp only[Option.some.injEq] at hcj;subst hcj
    exact (hvr ix v u hv huj).drop1
   ·exact hvr j c u hcj huj
  ·exact h.val i
 ·simp only[upd];split
  ·rename_i hi;subst hi
   rw[hc]
   intro j c u hcj huj
   rw[List.getElem?_set] at hcj
   split at hcj
   ·rename_i hj;subst hj
    try rw[if_pos hlt] at hcj
    simp only[Option.some.injEq] at hcj;subst hcj
    exact Own1.drop1 ..
   ·rename_i hj
    exact (hown j c u hcj huj).re fun g m z hd hg=>by rw[Ghost.mv_some hd hg];simp[fromSlotAt,Ne.symm hj]
  ·rename_i hi
   exact (h.own i).re fun g m z j hd hg=>by rw[Ghost.mv_some hd hg];simp[fromSlotAt,hi]
 ·cases v with
  |list own sz ws=>
   have:=hown ix _ _ hv hu
   exact this.re fun g m z hd hg=>by rw[Ghost.mv_some hd hg];simp[fromSlotAt]
  |_=>simp only[AV.keep1];exact OwnAt.share ..
def aLoadTake (P:Program) (t:TypeId) (ad:AV) (A:Slots) (σ:Store) (K:AV→Slots→Store→Prop):Prop:=
 match tAgg P t,ad with
 |some false, .lit (.pointer (some ⟨o,off,none⟩))=>match σ o with
  |some cs=>match cs[off]? with
   |some c=>K c.keep1 A (σ.upd o (cs.set off c.drop1))
   |none=>False
  |none=>False
 |some true,_=>aLoadTakeAgg P t ad A σ K
 |_,_=>False
def fromObjAt (o ix:Nat):Place→Place
 | .obj p j=>if p=o∧j=ix then .acc 0 else .obj p j
 |π=>π
theorem aLoadTake_sound {P:Program} {D:Nat→Prop} {n:Nat} {G:Ghost} {A:Slots} {σ:Store} {a:Act} {w:World} (h:Rel D n G A σ a w) {o:Oper} {K:AV→Slots→Store→Prop} {t:TypeId} {y:Operand}
  (ho:o.op= .load t y) (hK:aLoadTake P t (evalA A y) A σ K):Does P D n G a w o K:=by
 unfold aLoadTake at hK
 split at hK
 case h_2=>rename_i hagg;exact aLoadTakeAgg_sound h ho hagg hK
 case h_3=>exact hK.elim
 rename_i p off hagg heq
 split at hK
 case h_2=>exact hK.elim
 rename_i cs hcs
 split at hK
 case h_2=>exact hK.elim
 rename_i c hc
 have hy:=h.eval y
 rw[heq] at hy
 generalize hyv:a.eval y=yv at hy
 cases hy
 obtain ⟨p1,p2,p3,cur,e,p4,p5,p6⟩:=h.world.obj p cs hcs
 have hlt:=(List.getElem?_eq_some_iff.1 hc).1
 have hu:cur[off]?=some (cur[off]'(by omega)):=by simp
 obtain ⟨r1,r2,r3⟩:=p6 off c _ hc hu
 refine ⟨_,cur[off],A,_,G.mv D (fromObjAt p off),w,hK, .inl ?_,h.step (fun _ _ _ h=>h) (fun g m z i j hd hg=>by rw[Ghost.mv_some hd hg];rfl) ?_ (Nat.le_refl _),r2.keep1, ?_,Ext.mv ..⟩
 ·have hcell:w.cell? ⟨p,off,none⟩=some cur[off]:=by rw[cell_of_row w p off cur e (0,0) p4];exact hu
  simp[execOp,ho,hyv,Instr.loadAt,Instr.sureAddr,loadVar,run_isAgg hagg,hcell]
 ·refine h.world.objTo hcs rfl (fun g m z π hg=>Ghost.mv_back hg) (fun g m z q i hd hq _ hg=>by rw[Ghost.mv_some hd hg];simp[fromObjAt,hq]) p4 p4 (fun _ _=>rfl) (by simpa using p5) fun i c' u hci hui=> ?_
  rw[List.getElem?_set] at hci
  split at hci
  ·rename_i hi;subst hi
   try rw[if_pos hlt] at hci
   simp only[Option.some.injEq] at hci;subst hci
   obtain ⟨q1,q2,q3⟩:=p6 off c u hc hui
   exact ⟨q1,q2.drop1,Own1.drop1 ..⟩
  ·rename_i hi
   obtain ⟨q1,q2,q3⟩:=p6 i c' u hci hui
   exact ⟨q1,q2,q3.re fun g m z hd hg=>by rw[Ghost.mv_some hd hg];simp[fromObjAt,Ne.symm hi]⟩
 ·cases c with
  |list own sz ws=>exact r3.re fun g m z hd hg=>by rw[Ghost.mv_some hd hg];simp[fromObjAt]
  |_=>simp only[AV.keep1];exact OwnAt.share ..
def isNilConst:Operand→Bool
 | .const (.slice none 0 0)=>true
 |_=>false
def aNilTest (P:Program) (neg:Bool) (t:TypeId) (a:AV) (A:Slots) (σ:Store) (K:AV→Slots→Store→Prop):Prop:=
 match tElem P t,a with
 |some _, .list _ _ vs=>∀r:Bool,(r=true→vs=[])→K (.lit (.bool (r !=neg))) A σ
 |some _, .lit (.slice b _ _)=>K (.lit (.bool (b.isNone !=neg))) A σ
 |some _, .row _ _=>K (.lit (.bool neg)) A σ
 |_,_=>False
theorem aNilTest_sound {P:Program} {D:Nat→Prop} {n:Nat} {G:Ghost} {A:Slots} {σ:Store} {a:Act} {w:World} (h:Rel D n G A σ a w) {o:Oper} {K:AV→Slots→Store→Prop} {op:BinOp} {neg:Bool} {t t':TypeId} {x y:Operand}
  (hop:(op= .eql∧neg=false)∨(op= .neq∧neg=true)) (ho:o.op= .binOp op t x y t') (hy:isNilConst y=true) (hK:aNilTest P neg t (evalA A x) A σ K):Does P D n G a w o K:=by
 have hyv:a.eval y= .slice none 0 0:=by
  unfold isNilConst at hy
  split at hy
  ·rfl
  ·cases hy
 have fin:∀(b:Option Addr) (l c:Nat),a.eval x= .slice b l c→(∃e,tElem P t=some e)→K (.lit (.bool (b.isNone !=neg))) A σ→Does P D n G a w o K:=by
  rintro b l c hb ⟨e,he⟩ hk
  refine ⟨_,_,A,σ,G,w,hk, .inl ?_,h, .lit _,OwnAt.of_plain rfl,Ext.refl ..⟩
  have heq:∀d,(Op.equalIn (d+1) t (.slice b l c) (.slice none 0 0)).run P w= .ok b.isNone w:=fun d=>by
   cases b<;>simp[Op.equalIn,run_underlying (under_elem he)]
  have heq':(Op.equal t (.slice b l c) (.slice none 0 0)).run P w= .ok b.isNone w:=heq 9999
  rcases hop with ⟨rfl,rfl⟩|⟨rfl,rfl⟩
  ·have e1:binOp .eql t (.slice b l c) (.slice none 0 0)=(do pure (.bool (←Op.equal t (.slice b l c) (.slice none 0 0)))):=rfl
   have e2:eqGuard .eql t x y (.slice b l c) (.slice none 0 0)=pure ():=rfl
   simp[execOp,ho,hb,hyv,e1,e2,heq']
  ·have e1:binOp .neq t (.slice b l c) (.slice none 0 0)=(do pure (.bool (!(←Op.equal t (.slice b l c) (.slice none 0 0))))):=rfl
   have e2:eqGuard .neq t x y (.slice b l c) (.slice none 0 0)=pure ():=rfl
   simp[execOp,ho,hb,hyv,e1,e2,heq']
 unfold aNilTest at hK
 have hx:=h.eval x
 split at hK
 ·rename_i e _ _ vs he hA
  rw[hA] at hx
  generalize hxv:a.eval x=xv at hx
  cases hx with
  |nil=>exact fin none 0 0 hxv ⟨e,he⟩ (hK true (fun _=>rfl))
  |void=>exact fin (some _) 0 0 hxv ⟨e,he⟩ (hK false (by simp))
  |list _ _ _ g off m cap us hn hcap hw hl hF hv=>exact fin _ m cap hxv ⟨e,he⟩ (hK false (by simp))
 ·rename_i e b l c he hA
  rw[hA] at hx
  generalize hxv:a.eval x=xv at hx
  cases hx
  exact fin b l c hxv ⟨e,he⟩ hK
 ·rename_i e p l he hA
  rw[hA] at hx
  generalize hxv:a.eval x=xv at hx
  cases hx
  exact fin _ _ _ hxv ⟨e,he⟩ (by cases neg<;>exact hK)
 ·exact hK.elim
def aConvSame (P:Program) (own:Bool) (src dst:TypeId) (x:Operand) (A:Slots) (σ:Store) (K:AV→Slots→Store→Prop):Prop:=
 src=dst∧(tElem P dst).bind (tInt P)=some .u8∧takeA A x fun v A'=>match v with
  | .list true 1 (v::vs)=>K (.list own 1 (v::vs)) A' σ
  |_=>False
theorem aConvSame_sound {P:Program} {D:Nat→Prop} {n:Nat} {G:Ghost} {A:Slots} {σ:Store} {a:Act} {w:World} (h:Rel D n G A σ a w) {o:Oper} {K:AV→Slots→Store→Prop} {src dst:TypeId} {x:Operand} {ow:Bool}
  (ho:o.op= .convert src dst x) (hK:aConvSame P ow src dst x A σ K):Does P D n G a w o K:=by
 obtain ⟨rfl,hel,hK⟩:=hK
 cases he:tElem P src with
 |none=>simp[he] at hel
 |some e=>
  simp[he] at hel
  obtain ⟨v,A',G1,hk,hR,hv,hown,hext,hF⟩:=h.takes hK
  split at hk
  case h_2=>exact hk.elim
  rename_i v0 vs0
  generalize hvs:v0::vs0=vs at*
  generalize hxv:a.eval x=xv at hv hown
  have hus:=under_elem he
  have hui:=under_int hel
  cases hv with
  |nil=>cases hvs
  |list _ _ _ g off m cap us hn hcap hw hl hF1 hv1=>
   have hown0:=hown
   rcases hown with hc0|hown
   ·subst hc0
    have:vs.length=0:=by omega
    rw[←hvs] at this
    simp at this
   obtain ⟨hDg,z,hSg,hcz,hcm⟩:=hown
   dsimp only at hDg hSg hcz
   obtain ⟨hσg,⟨cur,e',⟨fz0,hg,hfz0⟩,hcs⟩,hnone⟩:=hR.world.own _ _ _ _ hSg
   let w':=w.freeze ⟨g,cur.size,none⟩ 1
   obtain ⟨fz',hg',hfz'⟩:∃fz':Nat×Nat,w'.heap[g]?=some (.cells cur e' fz')∧cur.size≤fz'.1:=by
    obtain ⟨lo,hi⟩:=fz0
    refine ⟨_,by simp[w',World.freeze,Array.getElem?_modify,hg];rfl, ?_⟩
    by_cases hlh:lo=hi
    ·simp[hlh]
    ·have:cur.size≤lo:=by
      rcases hfz0 with h0|h0
      ·cases h0;exact absurd rfl hlh
      ·exact h0
     simp[hlh];omega
   have hoth:∀k,k≠g→w'.heap[k]?=w.heap[k]?:=fun k hk=>by simp[w',World.freeze,Array.getElem?_modify,Ne.symm hk]
   have hW:WR D G1 σ w':=by
    refine ⟨fun k i u hu=> ?_,fun k m' z' π hk=> ?_,fun p cs hcs'=> ?_,hR.world.laid,othKeep hR.world (fun _ _ _ h=>h) (fun _=>rfl) fun k ob hi hk=>by
     have hne:k≠g:=fun e=>by subst e;have:=hi.2.1;rw[hSg] at this;cases this
     exact ⟨by rw[hoth k hne];exact hk,hi⟩,varKeep hR.world fun k ob hi hk=>by
     have hne:k≠g:=fun e=>by subst e;have:=hi.2.2;rw[hSg] at this;cases this
     exact ⟨by rw[hoth k hne];exact hk,hi⟩⟩
    ·obtain ⟨c,e'',fz,q1,q2⟩:=hR.world.frz k i u hu
     by_cases hkg:k=g
     ·subst hkg;rw[hg] at q1;simp only[Option.some.injEq,Obj.cells.injEq] at q1;obtain ⟨rfl,rfl,rfl⟩:=q1
      exact ⟨_,_,_,hg',q2⟩
     ·exact ⟨c,e'',fz,by rw[hoth k hkg];exact q1,q2⟩
    ·obtain ⟨q1,⟨c,e'',q2,q3⟩,q4⟩:=hR.world.own k m' z' π hk
     by_cases hkg:k=g
     ·subst hkg
      obtain ⟨_,q2,_⟩:=q2
      rw[hg] at q2;simp only[Option.some.injEq,Obj.cells.injEq] at q2;obtain ⟨rfl,rfl,rfl⟩:=q2
      exact ⟨q1,⟨_,_,⟨_,hg', .inr hfz'⟩,q3⟩,q4⟩
     ·exact ⟨q1,⟨c,e'',q2.same (hoth k hkg),q3⟩,q4⟩
    ·obtain ⟨q1,q2,q3,c,e'',q4,q5,q6⟩:=hR.world.obj p cs hcs'
     have hne:p≠g:=fun e=>by subst e;rw[hσg] at hcs';cases hcs'
     exact ⟨q1,q2,q3,c,e'',by rw[hoth p hne];exact q4,q5,q6⟩
   have hshape:w.shape? g=some (e',cur.size):=by simp[World.shape?,hg]
   refine ⟨_, .slice (some ⟨g,off,none⟩) m cap,A',σ,G1,w',hk, .inl ?_,hR.step (fun _ _ _ h=>h) (fun k m' z' i j _ hk=>hk) hW (by simp[w',World.freeze]), .list ow 1 vs g off m cap us hn hcap hw hl hF1 hv1, ?_,
    hext.trans ⟨by simp[w',World.freeze],by simp[w',World.freeze],by simp[w',World.freeze],by simp[w',World.freeze],fun _ _ _ h=>h,fun k hk=> ?_⟩⟩
   ·simp[execOp,ho,hxv,convert,run_underlying hus,run_underlying hui,markStringish,hshape,w']
   ·cases ow
    ·exact OwnAt.of_plain rfl
    ·exact hown0
   ·have hne:k≠g:=fun e=>hk (e▸hDg)
    exact ⟨hoth k hne,rfl,rfl⟩
def runesAt (s:ByteArray):Nat→Nat→List Nat
 |0,_=>[]
 |b+1,i=>if i<s.size then (Utf8.decode s i).1::runesAt s b (i+(Utf8.decode s i).2) else []
def runesL (s:ByteArray):List Nat:=runesAt s s.size 0
def runesV (s:ByteArray):List AV:=(runesL s).map fun r=> .lit (.int .i32 (r:Nat))
theorem runesAt_len (s:ByteArray):∀b i,(runesAt s b i).length≤b
 |0,_=>Nat.le_refl _
 |b+1,i=>by
  unfold runesAt
  split
  ·have:=runesAt_len s b (i+(Utf8.decode s i).2)
   simp;omega
  ·simp
theorem runesFrom_eq (s:ByteArray):∀(b i:Nat) (acc:Array Value),Conv.runesFrom s b i acc=acc++((runesAt s b i).map fun r=>Value.int .i32 (r:Nat)).toArray
 |0,_,acc=>by simp[Conv.runesFrom,runesAt]
 |b+1,i,acc=>by
  unfold Conv.runesFrom runesAt
  split
  ·show Conv.runesFrom s b (i+(Utf8.decode s i).2) (acc.push (Value.int .i32 (Int.ofNat (Utf8.decode s i).1)))=_
   rw[runesFrom_eq s b]
   apply Array.ext'
   simp
  ·simp
def aConvRow (P:Program) (src dst:TypeId) (x:AV) (A:Slots) (σ:Store) (K:AV→Slots→Store→Prop):Prop:=
 match x,(tElem P dst).bind (tInt P) with
 | .lit (.string s),some .u8=>tStr P src=true∧s.size≤maxLen∧K (.list true 1 (bytesV s)) A σ
 | .lit (.string s),some .i32=>tStr P src=true∧s.size≤maxLen∧K (.list true 1 (runesV s)) A σ
 | .lit (.slice (some ⟨p,off,none⟩) len _),none=>tStr P dst=true∧(tElem P src).bind (tInt P)=some .u8∧(match σ p with
  |some cs=>off+len≤cs.length∧(match bytesOf ((cs.drop off).take len) with
   |some l=>K (.lit (.string ⟨l.toArray⟩)) A σ
   |none=>False)
  |none=>False)
 | .lit (.slice none 0 0),none=>tStr P dst=true∧(tElem P src).bind (tInt P)=some .u8∧K (.lit (.string ⟨#[]⟩)) A σ
 |_,_=>False
theorem Rel.strish {D:Nat→Prop} {n:Nat} {G:Ghost} {A:Slots} {σ:Store} {a:Act} {w:World} (hR:Rel D n G A σ a w) {g m z:Nat} {π:Place} (hDg:D g) (hSg:G.S g=some (m,z,π)) {cur:Array Value} {e':TypeId} {fz0:Nat×Nat}
  (hg:w.heap[g]?=some (.cells cur e' fz0)) (hfz0:fz0=(0,0)∨cur.size≤fz0.1):Rel D n G A σ a (w.freeze ⟨g,cur.size,none⟩ 1)∧Ext D G w G (w.freeze ⟨g,cur.size,none⟩ 1):=by
 obtain ⟨hσg,_,_⟩:=hR.world.own _ _ _ _ hSg
 generalize hw':w.freeze ⟨g,cur.size,none⟩ 1=w'
 obtain ⟨fz',hg',hfz'⟩:∃fz':Nat×Nat,w'.heap[g]?=some (.cells cur e' fz')∧cur.size≤fz'.1:=by
  subst hw'
  obtain ⟨lo,hi⟩:=fz0
  refine ⟨_,by simp[World.freeze,Array.getElem?_modify,hg];rfl, ?_⟩
  by_cases hlh:lo=hi
  ·simp[hlh]
  ·have:cur.size≤lo:=by
    rcases hfz0 with h0|h0
    ·cases h0;exact absurd rfl hlh
    ·exact h0
   simp[hlh];omega
 have hoth:∀k,k≠g→w'.heap[k]?=w.heap[k]?:=fun k hk=>by subst hw';simp[World.freeze,Array.getElem?_modify,Ne.symm hk]
 have hW:WR D G σ w':=by
  refine ⟨fun k i u hu=> ?_,fun k m' z' π hk=> ?_,fun p cs hcs'=> ?_,hR.world.laid,othKeep hR.world (fun _ _ _ h=>h) (fun _=>rfl) fun k ob hi hk=>by
   have hne:k≠g:=fun e=>by subst e;have:=hi.2.1;rw[hSg] at this;cases this
   exact ⟨by rw[hoth k hne];exact hk,hi⟩,varKeep hR.world fun k ob hi hk=>by
   have hne:k≠g:=fun e=>by subst e;have:=hi.2.2;rw[hSg] at this;cases this
   exact ⟨by rw[hoth k hne];exact hk,hi⟩⟩
  ·obtain ⟨c,e'',fz,q1,q2⟩:=hR.world.frz k i u hu
   by_cases hkg:k=g
   ·subst hkg;rw[hg] at q1;simp only[Option.some.injEq,Obj.cells.injEq] at q1;obtain ⟨rfl,rfl,rfl⟩:=q1
    exact ⟨_,_,_,hg',q2⟩
   ·exact ⟨c,e'',fz,by rw[hoth k hkg];exact q1,q2⟩
  ·obtain ⟨q1,⟨c,e'',q2,q3⟩,q4⟩:=hR.world.own k m' z' π hk
   by_cases hkg:k=g
   ·subst hkg
    obtain ⟨_,q2,_⟩:=q2
    rw[hg] at q2;simp only[Option.some.injEq,Obj.cells.injEq] at q2;obtain ⟨rfl,rfl,rfl⟩:=q2
    exact ⟨q1,⟨_,_,⟨_,hg', .inr hfz'⟩,q3⟩,q4⟩
   ·exact ⟨q1,⟨c,e'',q2.same (hoth k hkg),q3⟩,q4⟩
  ·obtain ⟨q1,q2,q3,c,e'',q4,q5,q6⟩:=hR.world.obj p cs hcs'
   have hne:p≠g:=fun e=>by subst e;rw[hσg] at hcs';cases hcs'
   exact ⟨q1,q2,q3,c,e'',by rw[hoth p hne];exact q4,q5,q6⟩
 refine ⟨hR.step (fun _ _ _ h=>h) (fun k m' z' i j _ hk=>hk) hW (by subst hw';simp[World.freeze]),⟨by subst hw';simp[World.freeze],by subst hw';simp[World.freeze],by subst hw';simp[World.freeze],by subst hw';simp[World.freeze],fun _ _ _ h=>h,fun k hk=> ?_⟩⟩
 have hne:k≠g:=fun e=>hk (e▸hDg)
 exact ⟨hoth k hne,rfl,rfl⟩
theorem flat_of_bytes:∀(vs:List AV) (l:List UInt8),bytesOf vs=some l→flat vs=vs
 |[],_,_=>rfl
 |v::vs,l,h=>by
  simp only[bytesOf,List.mapM_cons] at h
  cases hb:byteOf v with
  |none=>simp[hb] at h
  |some b=>
  cases hr:vs.mapM byteOf with
  |none=>simp[hb,hr] at h
  |some r=>
  have ih:=flat_of_bytes vs r hr
  have hv:v.cells=[v]:=by
   unfold byteOf at hb
   split at hb
   ·rfl
   ·cases hb
  show v.cells++flat vs=_
  rw[hv,ih];rfl
theorem aConvRow_sound {P:Program} {D:Nat→Prop} {n:Nat} {G:Ghost} {A:Slots} {σ:Store} {a:Act} {w:World} (h:Rel D n G A σ a w) {o:Oper} {K:AV→Slots→Store→Prop} {src dst:TypeId} {x:Operand}
  (ho:o.op= .convert src dst x) (hne:¬src=dst) (hK:aConvRow P src dst (evalA A x) A σ K):Does P D n G a w o K:=by
 unfold aConvRow at hK
 split at hK
 case h_5=>exact hK.elim
 ·rename_i s hx hel
  obtain ⟨hst,hmax,hk⟩:=hK
  have hxv:=(h.eval x).lit_eq hx
  cases he:tElem P dst with
  |none=>simp[he] at hel
  |some e=>
  simp[he] at hel
  have hc2:=cells_bytesV G.F s
  have hbl:=bytesV_length s
  have hul:=bytesU_length s
  have hge:=grownCap_ge w s.size 0 e
  have hcm:=grownCap_le_maxLen w s.size 0 e hmax
  obtain ⟨G',q1,q2,q3,q4,_,q5,q6⟩:=newListS h.drew ((bytesU s).toArray++Array.replicate (grownCap w s.size 0 e-s.size) (.int .u8 0)) e 1 (bytesV s) (grownCap w s.size 0 e)
   (by simp[hul];omega) (by rw[hbl];exact hge) hcm (fun v hv=>by
    simp only[bytesV,List.mem_map] at hv
    obtain ⟨_,_,rfl⟩:=hv
    rfl) (bytesU s) hc2 (fun j u hu=>by
    have hlt:=(List.getElem?_eq_some_iff.1 hu).1
    rw[Array.getElem?_append_left (by simpa using hlt)]
    simpa using hu)
  obtain ⟨r1,r2⟩:=q1.strish q5 q6 (heap_alloc_new _ _) (.inl rfl)
  rw[hbl] at q2 q3
  refine ⟨_,_,A,σ,G',_,hk, .inl ?_,r1,q2,q3,(Ext.drew.trans q4).trans r2⟩
  have hcells:(Array.map (fun b:UInt8=>Value.int IntKind.u8 (b.toNat:Int)) s.data)=(bytesU s).toArray:=by
   apply Array.ext'
   simp[bytesU]
  have hgc:(Question.appendCap s.size 0 e).cut (w.tape w.drawn (.appendCap s.size 0 e))=grownCap w s.size 0 e:=rfl
  clear q1 q2 q3 q4 q5 q6 r1 r2
  generalize hcu:(bytesU s).toArray++Array.replicate (grownCap w s.size 0 e-s.size) (Value.int IntKind.u8 0)=cu at*
  have hshape:(w.drew.alloc (.cells cu e)).shape? w.heap.size=some (e,cu.size):=by
   have:=heap_alloc_new w.drew (.cells cu e)
   have h2:(w.drew.alloc (.cells cu e)).heap[w.heap.size]?=some (.cells cu e (0,0)):=this
   simp only[World.shape?,h2]
  simp[execOp,ho,hxv,convert,run_underlying (under_str hst),run_underlying (under_elem he),run_underlying (under_int hel),Conv.stringToBytes,newRow,hcells,markStringish,Question.forced,hgc,hcu,hshape]
 ·rename_i s hx hel
  obtain ⟨hst,hmax,hk⟩:=hK
  have hxv:=(h.eval x).lit_eq hx
  cases he:tElem P dst with
  |none=>simp[he] at hel
  |some e=>
  simp[he] at hel
  have hrl:(runesL s).length≤s.size:=runesAt_len s _ _
  have hvl:(runesV s).length=(runesL s).length:=by simp[runesV]
  have hge:=grownCap_ge w (runesL s).length 0 e
  have hcm:=grownCap_le_maxLen w (runesL s).length 0 e (by omega)
  have hflat:flat (runesV s)=runesV s:=by
   unfold runesV
   induction runesL s with
   |nil=>rfl
   |cons b l ih=>simp only[flat,List.map_cons,List.flatMap_cons] at ih⊢;rw[ih];rfl
  have hc2:CellsR (VR G.F) (flat (runesV s)) ((runesL s).map fun r=>Value.int .i32 (r:Nat)):=by
   rw[hflat]
   refine ⟨by simp[runesV],fun i u hu=> ?_,fun i c u hc hu=> ?_⟩
   ·rw[List.getElem?_map] at hu
    cases hr:(runesL s)[i]? with
    |none=>rw[hr] at hu;cases hu
    |some r=>rw[hr] at hu;cases hu;rfl
   ·unfold runesV at hc
    rw[List.getElem?_map] at hu hc
    cases hr:(runesL s)[i]? with
    |none=>rw[hr] at hu;cases hu
    |some r=>rw[hr] at hu hc;cases hu;cases hc;exact .lit _
  obtain ⟨G',q1,q2,q3,q4,_⟩:=newList h.drew (((runesL s).map fun r=>Value.int .i32 (r:Nat)).toArray++Array.replicate (grownCap w (runesL s).length 0 e-(runesL s).length) (.int .i32 0)) e 1 (runesV s) (grownCap w (runesL s).length 0 e)
   (by simp;omega) (by rw[hvl];exact hge) hcm (fun v hv=>by
    simp only[runesV,List.mem_map] at hv
    obtain ⟨_,_,rfl⟩:=hv
    rfl) _ hc2 (fun j u hu=>by
    have hlt:=(List.getElem?_eq_some_iff.1 hu).1
    rw[Array.getElem?_append_left (by simpa using hlt)]
    simpa using hu)
  rw[hvl] at q2 q3
  refine ⟨_,_,A,σ,G',_,hk, .inl ?_,q1,q2,q3,Ext.drew.trans q4⟩
  have hrf:=runesFrom_eq s s.size 0 #[]
  simp at hrf
  have hrf2:(Conv.runesFrom s s.size 0 #[]).size=(runesL s).length:=by rw[hrf];simp[runesL]
  simp[execOp,ho,hxv,convert,run_underlying (under_str hst),run_underlying (under_elem he),run_underlying (under_int hel),Conv.stringToRunes,newRow,hrf,grownCap,Question.forced,runesL]
 ·rename_i p off len cap hx hel
  obtain ⟨hst,hsu,hk⟩:=hK
  split at hk
  case h_2=>exact hk.elim
  rename_i cs hcs
  obtain ⟨hle,hk⟩:=hk
  split at hk
  case h_2=>exact hk.elim
  rename_i l hl
  have hxv:=(h.eval x).lit_eq hx
  cases he:tElem P src with
  |none=>simp[he] at hsu
  |some e=>
  simp[he] at hsu
  obtain ⟨_,_,_,c,e',q4,q5,q6⟩:=h.world.obj p cs hcs
  have hus:((c.toList.drop off).take len).length=len:=by simp;omega
  have hvs:((cs.drop off).take len).length=len:=by simp;omega
  have hg:∀i,i<len→((c.toList.drop off).take len)[i]?=c[off+i]?:=fun i hi=>by
   rw[List.getElem?_take,if_pos hi,List.getElem?_drop,Array.getElem?_toList]
  have hgv:∀i,i<len→((cs.drop off).take len)[i]?=cs[off+i]?:=fun i hi=>by
   rw[List.getElem?_take,if_pos hi,List.getElem?_drop]
  have hfl:=flat_of_bytes _ _ hl
  obtain ⟨f,hf1,hf2⟩:=bytesOf_vals ((cs.drop off).take len) ((c.toList.drop off).take len) l hl ⟨by rw[hfl,hus,hvs],fun i u hu=>by
    have hi:i<len:=by have:=(List.getElem?_eq_some_iff.1 hu).1;omega
    rw[hg i hi] at hu
    have hci:off+i<cs.length:=by omega
    exact (q6 _ _ _ (List.getElem?_eq_getElem hci) hu).1,fun i c' u hc' hu=>by
    have hi:i<len:=by have:=(List.getElem?_eq_some_iff.1 hu).1;omega
    rw[hg i hi] at hu
    rw[hfl,hgv i hi] at hc'
    exact (q6 _ _ _ hc' hu).2.1⟩
  have hlen:f.length=len:=by rw[hf1] at hus;simpa using hus
  have hrun:=run_convert_bytes_arg (P:=P) w src e (under_elem he) (under_int hsu) p off len cap f hlen (fun i hi=>by
   have hu:c[off+i]?=some (.int .u8 (f.getD i 0)):=by
    rw[←hg i hi,hf1,List.getElem?_map,List.getD_eq_getElem?_getD,List.getElem?_eq_getElem (by omega)];rfl
   rw[cell_of_row w p (off+i) c e' (0,0) q4];exact hu) dst (under_str hst)
  have hst2:strOfNums f=⟨l.toArray⟩:=by unfold strOfNums;rw[hf2]
  rw[hst2] at hrun
  refine ⟨_,_,A,σ,G,w,hk, .inl ?_,h, .lit _,OwnAt.of_plain rfl,Ext.refl _ _ _⟩
  simp[execOp,ho,hxv,hrun]
 ·rename_i hx hel
  obtain ⟨hst,hsu,hk⟩:=hK
  have hxv:=(h.eval x).lit_eq hx
  cases he:tElem P src with
  |none=>simp[he] at hsu
  |some e=>
  simp[he] at hsu
  refine ⟨_,_,A,σ,G,w,hk, .inl ?_,h, .lit _,OwnAt.of_plain rfl,Ext.refl _ _ _⟩
  have:=run_convert_bytes_nil (P:=P) w src e (under_elem he) (under_int hsu) 0 0 dst (under_str hst)
  simp[execOp,ho,hxv,this]
  rfl
def aSliceOwn (P:Program) (t:TypeId) (x:Operand) (lo:Option AV) (A:Slots) (σ:Store) (K:AV→Slots→Store→Prop):Prop:=
 takeA A x fun v A'=>match v with
  | .list true sz vs=>match bndA lo 0 with
   |some l=>(tElem P t).bind (tSize P)=some sz∧l≤vs.length∧0<vs.length∧K (.list true sz (vs.drop l)) A' σ
   |none=>False
  |_=>False
theorem aSliceOwn_sound {P:Program} {D:Nat→Prop} {n:Nat} {G:Ghost} {A:Slots} {σ:Store} {a:Act} {w:World} (h:Rel D n G A σ a w) {o:Oper} {K:AV→Slots→Store→Prop} {t:TypeId} {x:Operand} {lo:Option Operand}
  (ho:o.op= .slice t x lo none none) (hK:aSliceOwn P t x (lo.map (evalA A)) A σ K):Does P D n G a w o K:=by
 unfold aSliceOwn at hK
 have hlo:OptVR G.F (lo.map (evalA A)) (lo.map a.eval):=by
  cases lo with
  |none=>trivial
  |some y=>exact h.eval y
 obtain ⟨v,A',G1,hk,hR,hv,hown,hext,hF⟩:=h.takes hK
 split at hk
 case h_2=>exact hk.elim
 rename_i sz vs
 split at hk
 case h_2=>exact hk.elim
 rename_i l hl
 obtain ⟨hel,hlt,hpos,hk⟩:=hk
 cases he:tElem P t with
 |none=>simp[he] at hel
 |some e=>
 simp[he] at hel
 generalize hxv:a.eval x=xv at hv hown
 have hu:=under_elem he
 cases hv with
 |nil=>simp at hpos
 |list _ _ _ g off m cap us hn hcap hw hll hF1 hv1=>
  rcases hown with hc0|hown
  ·omega
  obtain ⟨hDg,z,hSg,hcz,hcm⟩:=hown
  dsimp only at hDg hSg hcz
  have hx':VR G1.F (.list true sz vs) (.slice (some ⟨g,off,none⟩) m cap):= .list true sz vs g off m cap us hn hcap hw hll hF1 hv1
  have hr:=run_bounds (P:=P) (w:=w) (isSlice:=true) (len:=m) (cap:=cap) (mx:=none) (mx':=none) (hi:=none) (hi':=none) (m:=m) (m':=m) (h:=m) hlo trivial trivial hl rfl rfl (by omega) (Nat.le_refl _) hcap (by simp)
  by_cases hml:cap=l
  ·subst hml
   have hmc:m=cap:=by omega
   have hd0:vs.drop cap=[]:=List.drop_of_length_le (by omega)
   rw[hd0] at hk
   refine ⟨_, .slice (some ⟨g,off,none⟩) 0 0,A',σ,G1,w,hk, .inl ?_,hR, .list true _ [] g off 0 0 [] rfl (Nat.le_refl _) (by simp) (by simp[flat]) (by simp) (by simp), .inl rfl,hext⟩
   simp at hr
   subst hmc
   simp[execOp,ho,hxv,Instr.sliceAt,Instr.slice,run_underlying hu,hr,run_sizeOf hel]
  have hcut:=(hx'.list_cut (l:=l) (hh:=m) (m:=cap) (by omega) (by omega) hcap)
  have e1:(vs.take m).drop l=vs.drop l:=by rw[List.take_of_length_le (by omega)]
  rw[e1] at hcut
  have hright:VR G1.F (.list true sz (vs.drop l)) (.slice (some ⟨g,off+l*sz,none⟩) (m-l) (cap-l)):=by
   generalize hcl:cap-l=cl at hcut⊢
   have hcl0:0<cl:=by omega
   generalize vs.drop l=vs2 at hcut⊢
   generalize m-l=ml at hcut⊢
   cases hcut with
   |void=>omega
   |list _ _ _ _ _ _ _ us hn hc hw hl hF hv=>exact .list true sz vs2 _ _ _ _ us hn hc hw hl hF hv
  refine ⟨_, .slice (some ⟨g,off+l*sz,none⟩) (m-l) (cap-l),A',σ,G1,w,hk, .inl ?_,hR,hright, ?_,hext⟩
  ·simp at hr
   simp[execOp,ho,hxv,Instr.sliceAt,Instr.slice,run_underlying hu,hr,run_sizeOf hel,hml,add_addr]
  ·have hmul:l*sz+(m-l)*sz=m*sz:=by rw[←Nat.add_mul];congr 1;omega
   have hmul2:l*sz+(cap-l)*sz=cap*sz:=by rw[←Nat.add_mul];congr 1;omega
   refine .inr ⟨hDg,z, ?_, ?_,by omega⟩
   ·show G1.S g=some (off+l*sz+(m-l)*sz,z, .acc 0)
    rw[Nat.add_assoc,hmul];exact hSg
   ·show off+l*sz+(cap-l)*sz≤z
    rw[Nat.add_assoc,hmul2];exact hcz
def copyDst (σ:Store) (x:AV):Option (Nat×Nat×Nat×List AV):=
 match x with
 | .lit (.slice (some ⟨p,off,none⟩) n _)=>(σ p).map fun cs=>(p,off,n,cs)
 |_=>none
def copySrc (σ:Store) (y:AV):Option (List AV):=
 match y with
 | .list _ sz vs=>if sz=1 then some (flat vs) else none
 | .lit (.slice none 0 0)=>some []
 | .lit (.slice (some ⟨q,off,none⟩) k _)=>(σ q).bind fun ds=>if off+k≤ds.length then some ((ds.drop off).take k) else none
 |_=>none
def aCopy (P:Program) (t:TypeId) (x y:AV) (A:Slots) (σ:Store) (K:AV→Slots→Store→Prop):Prop:=
 match (tElem P t).bind (tSize P),copyDst σ x,copySrc σ y with
 |some sz,some (p,off,n,cs),some src=>sz=1∧off+min n src.length≤cs.length∧K (.lit (.int .i64 (min n src.length:Nat))) A (σ.upd p (setRange cs off ((src.take (min n src.length)).map AV.drop1)))
 |_,_,_=>False
theorem aCopy_sound {P:Program} {D:Nat→Prop} {n:Nat} {G:Ghost} {A:Slots} {σ:Store} {a:Act} {w:World} (h:Rel D n G A σ a w) {o:Oper} {K:AV→Slots→Store→Prop} {t t':TypeId} {x y:Operand}
  (ho:o.op= .call {callee:= .builtin .copy,args:= #[x,y],argTypes:= #[t,t']}) (hK:aCopy P t (evalA A x) (evalA A y) A σ K):Does P D n G a w o K:=by
 unfold aCopy at hK
 split at hK
 case h_2=>exact hK.elim
 rename_i sz p off m cs src hsz hrow hsrc
 obtain ⟨rfl,hle,hk⟩:=hK
 cases he:tElem P t with
 |none=>simp[he] at hsz
 |some e=>
 rw[he] at hsz
 simp only[Option.bind_some] at hsz
 have hinfo:(P.info? e).map (·.size)=some 1:=by
  unfold tSize at hsz;exact hsz
 have hx:=h.eval x
 have hy:=h.eval y
 unfold copyDst at hrow
 split at hrow
 case h_2=>simp at hrow
 rename_i p' off' m' dcap hxa
 rw[hxa] at hx
 generalize hxv:a.eval x=xv at hx
 cases hx
 cases hcs:σ p' with
 |none=>simp[hcs] at hrow
 |some cs'=>
 simp only[hcs,Option.map_some,Option.some.injEq,Prod.mk.injEq] at hrow
 obtain ⟨rfl,rfl,rfl,rfl⟩:=hrow
 obtain ⟨p1,p2,p3,cur,e',p4,p5,p6⟩:=h.world.obj p' cs' hcs
 obtain ⟨us,sa,slen,scap,hyv,hslen,hus,hcells⟩:∃(us:List Value) (sa:Option Addr) (slen scap:Nat),a.eval y= .slice sa slen scap∧slen=src.length∧CellsR (VR G.F) (src.map AV.drop1) us∧((sa=none∧src=[]∧scap=0)∨∃ad,sa=some ad∧∀(j:Nat) (u:Value),us[j]?=some u→w.cell? (ad.add j)=some u):=by
  have dropR:∀ {as:List AV} {us:List Value},CellsR (VR G.F) as us→CellsR (VR G.F) (as.map AV.drop1) us:=fun {as us} hc=>⟨by simpa using hc.1,hc.2.1,fun j c u hcj hu=>by
   rw[List.getElem?_map] at hcj
   cases hcc:as[j]? with
   |none=>simp[hcc] at hcj
   |some c'=>simp[hcc] at hcj;subst hcj;exact (hc.2.2 j c' u hcc hu).drop1⟩
  unfold copySrc at hsrc
  split at hsrc
  ·rename_i own sz' vs hya
   split at hsrc
   case isFalse=>simp at hsrc
   rename_i h1;subst h1
   simp only[Option.some.injEq] at hsrc;subst hsrc
   rw[hya] at hy
   generalize a.eval y=yv at hy
   cases hy with
   |nil=>exact ⟨[],none,0,0,rfl,by simp[flat],dropR ⟨rfl,by simp,by simp⟩, .inl ⟨rfl,by simp[flat],rfl⟩⟩
   |void sz ad=>exact ⟨[],some ad,0,0,rfl,by simp[flat],dropR ⟨rfl,by simp,by simp⟩, .inr ⟨ad,rfl,by simp⟩⟩
   |list _ _ _ g off2 k cap us hn hc hw hl hF hv=>
    refine ⟨us,some ⟨g,off2,none⟩,k,cap,rfl,by rw[flat_length hw,hn];omega,dropR ⟨hl.symm,fun j u hu=>(hF j u hu).2,hv⟩, .inr ⟨_,rfl,fun j u hu=> ?_⟩⟩
    rw[add_addr]
    obtain ⟨cur,e',fz,q1,q2⟩:=h.world.frz _ _ _ (hF j u hu).1
    rw[cell_of_row w g (off2+j) cur e' fz q1];exact q2
  ·rename_i hya
   simp only[Option.some.injEq] at hsrc;subst hsrc
   rw[hya] at hy
   generalize a.eval y=yv at hy
   cases hy
   exact ⟨[],none,0,0,rfl,rfl,dropR ⟨rfl,by simp,by simp⟩, .inl ⟨rfl,rfl,rfl⟩⟩
  ·rename_i q off2 k scap hya
   cases hds:σ q with
   |none=>simp[hds] at hsrc
   |some ds=>
   simp only[hds,Option.bind_some] at hsrc
   split at hsrc
   case isFalse=>simp at hsrc
   rename_i hle2
   simp only[Option.some.injEq] at hsrc;subst hsrc
   rw[hya] at hy
   generalize a.eval y=yv at hy
   cases hy
   obtain ⟨q1,q2,q3,cur2,e2,q4,q5,q6⟩:=h.world.obj q ds hds
   have get:∀ {j:Nat} {u:Value},((cur2.toList.drop off2).take k)[j]?=some u→j<k∧cur2[off2+j]?=some u:=fun {j u} hu=>by
    have hj:=(List.getElem?_eq_some_iff.1 hu).1
    simp at hj
    rw[List.getElem?_take_of_lt (by omega),List.getElem?_drop] at hu
    exact ⟨by omega,by simpa using hu⟩
   have getc:∀ {j:Nat} {c:AV},((ds.drop off2).take k)[j]?=some c→ds[off2+j]?=some c:=fun {j c} hc=>by
    have hj:=(List.getElem?_eq_some_iff.1 hc).1
    simp at hj
    rwa[List.getElem?_take_of_lt (by omega),List.getElem?_drop] at hc
   refine ⟨(cur2.toList.drop off2).take k,some ⟨q,off2,none⟩,k,scap,rfl,by simp;omega,dropR ⟨by simp;omega,fun j u hu=> ?_,fun j c u hc hu=>(q6 _ c u (getc hc) (get hu).2).2.1⟩, .inr ⟨_,rfl,fun j u hu=> ?_⟩⟩
   ·have hlt:off2+j<ds.length:=by have:=(get hu).1;omega
    exact (q6 _ _ u (List.getElem?_eq_getElem hlt) (get hu).2).1
   ·rw[add_addr,cell_of_row w q (off2+j) cur2 e2 (0,0) q4];exact (get hu).2
  ·simp at hsrc
 obtain ⟨u1,u2,u3⟩:=hus
 have hul:us.length=src.length:=by simpa using u1.symm
 generalize hmm:min m' src.length=mm at*
 have hfit:off'+(us.take mm).length≤cur.size:=by simp only[List.length_take];omega
 have hone:∀u∈us.take mm,u.oneCell'=true:=fun u hu=>by
  obtain ⟨j,hj⟩:=List.getElem?_of_mem (List.mem_of_mem_take hu)
  exact u2 j u hj
 generalize hw':w.setRow p' (setRange cur.toList off' (us.take mm)).toArray=w'
 have hrun:(Builtin.copy_ #[t,t'] o.type #[.slice (some ⟨p',off',none⟩) m' dcap,a.eval y]).run P w= .ok (.int .i64 (mm:Nat)) w':=by
  rw[hyv]
  have hlen:(us.take mm).length=Nat.min slen m':=by
   show _=min slen m'
   simp only[List.length_take];omega
  rcases hcells with ⟨rfl,hs0,rfl⟩|⟨ad,rfl,hc⟩
  ·subst hs0
   have h0:mm=0:=by rw[←hmm];simp
   have hsl:slen=0:=by simpa using hslen
   subst h0 hsl
   have:=run_copy_nil (P:=P) w t t' o.type e ⟨p',off',none⟩ m' dcap (under_elem he) (by rw[hinfo];rfl)
   rw[this,←hw']
   have e0:(setRange cur.toList off' (us.take 0)).toArray=cur:=by
    simp[setRange]
   rw[e0,setRow_self w p' cur e' (0,0) p4]
   rfl
  ·have:=run_copy_row (P:=P) w t t' o.type e p' off' m' dcap ad slen scap cur e' (us.take mm) (under_elem he) hinfo p4 hlen (fun j v hj=>hc j v (by
    have hj':=(List.getElem?_eq_some_iff.1 hj).1
    simp at hj'
    rwa[List.getElem?_take_of_lt (by omega)] at hj)) hfit hone
   rw[this,toList_setRow hfit,hw']
   congr 1
   simp only[goInt,List.length_take]
   congr 1
   omega
 have hg':w'.heap[p']?=some (.cells (setRange cur.toList off' (us.take mm)).toArray e' (0,0)):=by subst hw';exact setRow_heap w p' cur _ e' _ p4
 have hoth:∀k,k≠p'→w'.heap[k]?=w.heap[k]?:=fun k hk=>by subst hw';exact setRow_other w p' k _ hk
 refine ⟨.lit (.int .i64 (mm:Nat)), .int .i64 (mm:Nat),A,_,G,w',hk, .inl ?_,h.step (fun _ _ _ h=>h) (fun g m z i j _ hg=>hg) ?_ (by subst hw';simp), .lit _,OwnAt.of_plain rfl,
  ⟨by subst hw';rfl,by subst hw';rfl,by subst hw';rfl,by subst hw';simp,fun _ _ _ h=>h,fun k hk=> ?_⟩⟩
 ·simp[execOp,ho,resolve,invoke,builtin,hxv,hrun]
 ·refine h.world.objTo hcs rfl (fun g n z π hg=>⟨π,hg⟩) (fun g n z q i _ _ _ hg=>hg) p4 hg' hoth (by simp[setRange_length];omega) fun i c u hc hu=> ?_
  have hu':(setRange cur.toList off' (us.take mm))[i]?=some u:=by simpa using hu
  rw[setRange_get _ _ _ _ (by simpa using hfit)] at hu'
  have hlen2:((src.take mm).map AV.drop1).length=(us.take mm).length:=by simp only[List.length_map,List.length_take];omega
  rw[setRange_get _ _ _ _ (by rw[hlen2];simp only[List.length_take];omega),hlen2] at hc
  split at hc
  ·rename_i hi
   rw[if_pos hi] at hu'
   have hu2:us[i-off']?=some u:=by
    have hj:=(List.getElem?_eq_some_iff.1 hu').1
    simp at hj
    rwa[List.getElem?_take_of_lt (by omega)] at hu'
   have hc2:(src.map AV.drop1)[i-off']?=some c:=by
    have hj:=(List.getElem?_eq_some_iff.1 hc).1
    simp at hj
    rwa[List.map_take,List.getElem?_take_of_lt (by omega)] at hc
   refine ⟨u2 _ _ hu2,u3 _ _ _ hc2 hu2, ?_⟩
   rw[List.getElem?_map] at hc2
   cases hcc:src[i-off']? with
   |none=>simp[hcc] at hc2
   |some c'=>simp[hcc] at hc2;subst hc2;exact Own1.drop1 ..
  ·rename_i hi
   rw[if_neg hi] at hu'
   exact p6 i c u hc (by simpa using hu')
 ·have:k≠p':=fun e=>hk (e▸p1)
  exact ⟨hoth k this,rfl,rfl⟩
def steals (st:List Tmp) (o:Oper):Bool:=match o.dst with|some d=>st.contains d|none=>false
def sliceTake (st:List Tmp) (o:Oper) (hi mx:Option Operand):Bool:=steals st o&&hi.isNone&&mx.isNone
def raws (st:List Tmp) (o:Oper):Bool:=match o.dst with|some d=>st.contains (d+2000000)|none=>false
def objs (st:List Tmp) (o:Oper):Bool:=match o.dst with|some d=>st.contains (d+1000000)|none=>false
def frees (st:List Tmp) (o:Oper):Bool:=match o.dst with|some d=>st.contains (d+3000000)|none=>false
def objRow (x:AV):Bool:=match x with| .lit (.slice (some _) _ _)=>true|_=>false
def aFreeze (x:AV) (σ:Store) (K:AV→Store→Prop):Prop:=
 match x with
 | .lit (.slice (some ⟨p,0,none⟩) n cap)=>match σ p with
  |some cs=>n≤cap∧cs.length=cap∧cap≤maxLen∧(∀v∈cs.take n,v.cells=[v])∧K (.list true 1 (cs.take n)) (σ.del p)
  |none=>False
 |_=>False
theorem aFreeze_mono {x:AV} {σ:Store} {K K':AV→Store→Prop} (h:aFreeze x σ K) (hk:∀v σ',K v σ'→K' v σ'):aFreeze x σ K':=by
 unfold aFreeze at*
 split at h
 ·split at h
  ·exact ⟨h.1,h.2.1,h.2.2.1,h.2.2.2.1,hk _ _ h.2.2.2.2⟩
  ·exact h
 ·exact h
theorem flat_ones {l:List AV} (h:∀v∈l,v.cells=[v]):flat l=l:=by
 induction l with
 |nil=>rfl
 |cons v l ih=>
  show v.cells++flat l=_
  rw[h v (by simp),ih fun x hx=>h x (by simp[hx])];rfl
theorem aFreeze_sound {P:Program} {D:Nat→Prop} {n:Nat} {G:Ghost} {A:Slots} {σ:Store} {a:Act} {w:World} (h:Rel D n G A σ a w) {o:Oper} {K:AV→Slots→Store→Prop} {x:Operand} (ho:o.op= .assign x)
  (hK:aFreeze (evalA A x) σ fun v σ'=>K v A σ'):Does P D n G a w o K:=by
 unfold aFreeze at hK
 split at hK
 case h_2=>exact hK.elim
 rename_i p m cap hx
 split at hK
 case h_2=>exact hK.elim
 rename_i cs hcs
 obtain ⟨h1,h2,h3,h4,hk⟩:=hK
 have hfl:=flat_ones h4
 have hl:(cs.take m).length=m:=by simp;omega
 have hxv:=(h.eval x).lit_eq hx
 obtain ⟨G',q1,q2,q3,q4,q5,q6⟩:=h.world.freezeObj (vs:=cs.take m) (rest:=cs.drop m) (sz:=1) (cap:=cap) (by rw[hfl,List.take_append_drop];exact hcs) (by rw[hfl,List.take_append_drop];omega) h3 (by omega) (fun v hv=>by rw[h4 v hv];rfl) .acc (by simp)
 rw[hl] at q2 q3
 refine ⟨_,_,A,_,G',w,hk, .inl (by simp[execOp,ho,hxv]),⟨h.defers,h.size,fun i=>(h.val i).mono q4.frz,fun i=>(h.own i).re fun g m z j hd hg=> ?_,q1,h.fresh⟩,q2,q3,q4⟩
 have:g≠p:=fun e=>by subst e;rw[q6] at hg;cases hg
 rw[q5 g this];exact hg
def fixed (st:List Tmp) (o:Oper):Bool:=match o.dst with|some d=>st.contains (d+4000000)|none=>false
def fixT (st:List Tmp) (y:Operand):Bool:=match y with| .tmp t=>st.contains (t+5000000)|_=>false
def fixB (st:List Tmp) (o:Oper):Bool:=match o.dst with|some d=>st.contains (d+5000000)|none=>false
def aBoxFix (P:Program) (raw:Bool) (e:TypeId) (x:Operand) (A:Slots) (σ:Store) (K:AV→Slots→Store→Prop):Prop:=
 takeA A x fun v A'=>(cond raw v (conv P e v)).solid=true∧K (.fptr ((cond raw v (conv P e v)).cells.map AV.drop1)) A' σ
def pst (st:List Tmp) (o:Oper) (σ:Store):Store:=if fixed st o=true then fun _=>none else σ
def fixK (st:List Tmp) (y:Operand) (K:AV→Slots→Store→Prop):AV→Slots→Store→Prop:=fun v A σ=>
 if fixT st y=true then (match y with
  | .tmp t=>match A t with
   | .lit (.pointer (some ⟨p,0,none⟩))=>match σ p with
    |some cs=>K v (upd A t (.fptr (cs.map AV.drop1))) (σ.del p)
    |none=>False
   |_=>False
  |_=>False) else K v A σ
theorem fixK_mono {st:List Tmp} {y:Operand} {K K':AV→Slots→Store→Prop} (hk:∀v A σ,K v A σ→K' v A σ) {v:AV} {A:Slots} {σ:Store} (h:fixK st y K v A σ):fixK st y K' v A σ:=by
 unfold fixK at*
 split
 ·rename_i hs;rw[if_pos hs] at h
  (repeat' split at h)<;>first|exact hk _ _ _ h|exact h.elim
 ·rename_i hs;rw[if_neg hs] at h
  exact hk _ _ _ h
theorem WR.fixObj {D:Nat→Prop} {G:Ghost} {σ:Store} {w:World} (h:WR D G σ w) {p:Nat} {cs:List AV} (hcs:σ p=some cs):∃F':Frz,(∀g i u,G.F g i=some u→F' g i=some u)∧WR D ⟨F',G.S⟩ (σ.del p) w∧
  VR F' (.fptr (cs.map AV.drop1)) (.pointer (some ⟨p,0,none⟩))∧Ext D G w ⟨F',G.S⟩ w:=by
 obtain ⟨p1,p2,p3,cur,e,p4,p5,p6⟩:=h.obj p cs hcs
 generalize hus:cur.toList.take cs.length=us
 have hul:us.length=cs.length:=by subst hus;simp;omega
 have hget:∀(i:Nat) (u:Value),us[i]?=some u→cur[i]?=some u:=fun i u hu=>by
  have hi:=(List.getElem?_eq_some_iff.1 hu).1
  subst hus
  rw[List.getElem?_take_of_lt (by omega)] at hu
  simpa using hu
 have hmono:∀g i u,G.F g i=some u→Frz.put G.F p 0 us g i=some u:=fun g i u hu=>Frz.put_mono (fun i _=>p3 i) g i u hu
 refine ⟨Frz.put G.F p 0 us,hmono,⟨fun g i u hu=> ?_,fun g n z ρ hg=> ?_,fun o cs' ho=> ?_,fun g cs' hg=>(h.laid g cs' hg).mono hmono,
  othKeep (G':=⟨Frz.put G.F p 0 us,G.S⟩) h hmono (fun g=>del_mkey ..) fun k ob hi hk=> ?_,varKeep (G':=⟨Frz.put G.F p 0 us,G.S⟩) h fun k ob hi hk=>⟨hk, ?_,by rw[del_mkey];exact hi.2.1,hi.2.2⟩⟩, ?_,⟨rfl,rfl,rfl,Nat.le_refl _,hmono,fun k hk=>⟨rfl,rfl, ?_⟩⟩⟩
 ·change (if g=p∧0≤i∧i<0+us.length then us[i-0]? else G.F g i)=some u at hu
  split at hu
  ·rename_i hc;obtain ⟨rfl,h1,h2⟩:=hc
   exact ⟨cur,e,(0,0),p4,by have:=hget _ _ hu;simpa using this⟩
  ·exact h.frz g i u hu
 ·obtain ⟨h1,h2,h3⟩:=h.own g n z ρ hg
  have hgp:g≠p:=fun e=>by subst e;rw[p2] at hg;cases hg
  exact ⟨by simp[hgp,h1],h2,fun i hi=>by show Frz.put G.F p 0 us g i=none;rw[Frz.put_other hgp];exact h3 i hi⟩
 ·simp only[del_nat] at ho
  split at ho
  ·cases ho
  ·rename_i hop
   obtain ⟨q1,q2,q3,c,e',q4,q5,q6⟩:=h.obj o cs' ho
   refine ⟨q1,q2,fun i=>by show Frz.put G.F p 0 us o i=none;rw[Frz.put_other hop];exact q3 i,c,e',q4,q5,fun i cc u hc hu=> ?_⟩
   obtain ⟨s1,s2,s3⟩:=q6 i cc u hc hu
   exact ⟨s1,s2.mono hmono,s3.same fun _ _ _ _ h=>h⟩
 ·have hkp:k≠p:=fun e=>by subst e;have:=hi.1;rw[hcs] at this;cases this
  exact ⟨hk,by simp[hkp,hi.1],hi.2.1,fun i=>by show Frz.put G.F p 0 us k i=none;rw[Frz.put_other hkp];exact hi.2.2 i⟩
 ·have hkp:k≠p:=fun e=>by subst e;have:=hi.1;rw[hcs] at this;cases this
  simp[hkp,hi.1]
 ·refine .fptr _ p 0 us (by simp[hul]) (fun i u hu=>⟨?_, ?_⟩) fun i c u hc hu=> ?_
  ·exact Frz.put_at G.F p 0 us i u hu
  ·have hi:=(List.getElem?_eq_some_iff.1 hu).1
   have hci:cs[i]?=some (cs[i]'(by omega)):=List.getElem?_eq_getElem _
   exact (p6 i _ u hci (hget i u hu)).1
  ·rw[List.getElem?_map] at hc
   cases hci:cs[i]? with
   |none=>rw[hci] at hc;cases hc
   |some c0=>
    rw[hci] at hc
    simp only[Option.map_some,Option.some.injEq] at hc;subst hc
    exact ((p6 i c0 u hci (hget i u hu)).2.1.mono hmono).drop1
 ·have hkp:k≠p:=fun e=>by subst e;exact hk p1
  exact Frz.put_other hkp
theorem del_new {σ:Store} {p:Nat} {x:List AV} (hp:σ p=none):(σ.upd p x).del p=σ:=by
 funext q
 unfold Store.del Store.upd
 by_cases h:q=(p:Int)
 ·rw[if_pos h,h,hp]
 ·rw[if_neg h,if_neg h]
theorem aBoxFix_sound {P:Program} {D:Nat→Prop} {n:Nat} {G:Ghost} {A:Slots} {σ:Store} {a:Act} {w:World} (h:Rel D n G A σ a w) {o:Oper} {K:AV→Slots→Store→Prop} {raw:Bool} {e:TypeId} {x:Operand} (ho:o.op= .box e x)
  (hK:aBoxFix P raw e x A σ K):Does P D n G a w o K:=by
 have hK2:aBox P raw e x A σ fun v A' σ'=>∃(p:Nat) (cs:List AV),v= .lit (.pointer (some ⟨p,0,none⟩))∧σ p=none∧σ'=σ.upd p cs∧K (.fptr (cs.map AV.drop1)) A' σ:=by
  unfold aBoxFix takeA at hK
  unfold aBox takeA
  cases x<;>exact ⟨hK.1,fun p hp=>⟨p,_,rfl,hp,rfl,hK.2⟩⟩
 obtain ⟨v,cv,A',σ',G',w',⟨p,cs,rfl,hp,rfl,hk⟩,hrun,hR,hv,hown,hext⟩:=aBox_sound h ho hK2
 obtain ⟨F',f1,f2,f3,f4⟩:=hR.world.fixObj (p:=p) (cs:=cs) (by simp)
 rw[del_new hp] at f2
 refine ⟨_,cv,A',σ,⟨F',G'.S⟩,w',hk,hrun,⟨hR.defers,hR.size,fun i=>(hR.val i).mono f1,fun i=>(hR.own i).re fun _ _ _ _ _ h=>h,f2,hR.fresh⟩, ?_,OwnAt.of_plain rfl,hext.trans f4⟩
 rw[hv.lit_eq rfl];exact f3
theorem fixK_sound {P:Program} {st:List Tmp} {D:Nat→Prop} {n:Nat} {G:Ghost} {a:Act} {w:World} {o:Oper} {y:Operand} {K:AV→Slots→Store→Prop} (h:Does P D n G a w o (fixK st y K)):Does P D n G a w o K:=by
 obtain ⟨v,cv,A',σ',G',w',hK,hrun,hR,hv,hown,hext⟩:=h
 unfold fixK at hK
 split at hK
 case isFalse=>exact ⟨v,cv,A',σ',G',w',hK,hrun,hR,hv,hown,hext⟩
 split at hK
 case h_2=>exact hK.elim
 rename_i t hfx
 split at hK
 case h_2=>exact hK.elim
 rename_i p hAt
 split at hK
 case h_2=>exact hK.elim
 rename_i cs hcs
 obtain ⟨F',f1,f2,f3,f4⟩:=hR.world.fixObj hcs
 have hval:=hR.val t
 rw[hAt] at hval
 refine ⟨v,cv,_,_,⟨F',G'.S⟩,w',hK,hrun,⟨hR.defers,hR.size,fun i=> ?_,fun i=> ?_,f2,hR.fresh⟩,hv.mono f1,hown.re fun _ _ _ _ _ h=>h,hext.trans f4⟩
 ·simp only[upd]
  split
  ·rename_i e;subst e
   rw[hval.lit_eq rfl];exact f3
  ·exact (hR.val i).mono f1
 ·simp only[upd]
  split
  ·exact OwnAt.of_plain rfl
  ·exact (hR.own i).re fun _ _ _ _ _ h=>h
def aAllocRaw (P:Program) (e:TypeId) (A:Slots) (σ:Store) (K:AV→Slots→Store→Prop):Prop:=
 match tZero P e with
 |some z=>∀p:Nat,σ p=none→σ (mkey p)=none→K (.lit (.pointer (some ⟨p,0,none⟩))) A (σ.put p (rawA e z.cells))
 |none=>False
theorem aAllocRaw_sound {P:Program} {D:Nat→Prop} {n:Nat} {G:Ghost} {A:Slots} {σ:Store} {a:Act} {w:World} (h:Rel D n G A σ a w) {o:Oper} {K:AV→Slots→Store→Prop} {e:TypeId} (ho:o.op= .alloc e)
  (hK:aAllocRaw P e A σ K):Does P D n G a w o K:=by
 unfold aAllocRaw at hK
 split at hK
 case h_2=>exact hK.elim
 rename_i z hz1
 have hD:=h.fresh _ (Nat.le_refl w.heap.size)
 have hn:σ (mkey w.heap.size)=none:=by
  cases hs:σ (mkey w.heap.size) with
  |none=>rfl
  |some x=>obtain ⟨_,_,ob',h4,_⟩:=h.world.oth _ x hs;have:=(Array.getElem?_eq_some_iff.1 h4).1;omega
 refine ⟨_,_,_,_,G,_,hK w.heap.size h.world.fresh_idle.1 hn, .inl ?_,h.step (fun _ _ _ h=>h) (fun _ _ _ _ _ _ h=>h) (h.world.newOth (ob:= .cells z.cells e (0,0)) hD (.raw e z.cells)) (by simp), .lit _,OwnAt.of_plain rfl,Ext.alloc h.fresh G _⟩
 simp[execOp,ho,Instr.alloc,run_zeroValue hz1,newVar,newRow]
def astep (P:Program) (st:List Tmp) (o:Oper) (A:Slots) (σ:Store) (K:AV→Slots→Store→Prop):Prop:=
 match o.op with
 | .assign x=>if (frees st o&&objRow (evalA A x))=true then aFreeze (evalA A x) σ fun v σ'=>K v A σ' else if objs st o=true then takeA A x fun v A'=>K v A' σ else takeA A x fun v A'=>K (conv P o.type v) A' σ
 | .move (.tmp t)=>if steals st o=true then takeA A (.tmp t) fun v A'=>K (conv P o.type v) A' σ else K (A t).share A σ
 | .load t y=>if steals st o=true then aLoadTake P t (evalA A y) A σ K else match apure P o A (pst st o σ) with|some v=>K v A σ|none=>False
 | .alloc e=>if raws st o=true then aAllocRaw P e A σ K else aAlloc P e A σ K
 | .box e x=>if fixB st o=true then aBoxFix P (objs st o) e x A σ K else aBox P (objs st o) e x A σ K
 | .store t y x=>aStore P t (evalA A y) x A σ (fixK st y K)
 | .buildSlice t len parts=>if objs st o=true then aBuildObj P t len parts A σ K else match aBuildSlice P t len (nodeOf parts A) with|some v=>K v A σ|none=>False
 | .makeSlice t x y=>aMake P (steals st o) (objs st o) t (evalA A x) (evalA A y) A σ K
 | .binOp op t x y _=>if isNilConst y=true then (match op with
   | .eql=>aNilTest P false t (evalA A x) A σ K
   | .neq=>aNilTest P true t (evalA A x) A σ K
   |_=>False) else match apure P o A σ with|some v=>K v A σ|none=>False
 | .convert src dst x=>if src=dst then aConvSame P (steals st o) src dst x A σ K else if objs st o=true then aConvRow P src dst (evalA A x) A σ K else match apure P o A σ with|some v=>K v A σ|none=>False
 | .slice t x lo hi mx=>if sliceTake st o hi mx=true then aSliceOwn P t x (lo.map (evalA A)) A σ K else match apure P o A σ with|some v=>K v A σ|none=>False
 | .extract (.tmp t) ix=>aExtract t ix A σ K
 | .build t parts=>if objs st o=true then aBuildTake P (raws st o) t parts A σ K else match apure P o A σ with|some v=>K v A σ|none=>False
 | .call c=>match c.callee,c.args.toList,c.argTypes.toList with
  | .builtin .append,[s,x],[t,t']=>if t=t' then (if objs st o=true then (if isRow (evalA A x)=true then aAppendRow P t s x A σ K else aAppendObj P t s x A σ K) else aAppend P t s x A σ K) else aAppendStr P t t' s x A σ K
  | .builtin .copy,[x,y],[t,_]=>aCopy P t (evalA A x) (evalA A y) A σ K
  | .builtin .len,[x],[t]=>if objs st o=true then aMapLen P t (evalA A x) A σ K else match apure P o A σ with|some v=>K v A σ|none=>False
  |_,_,_=>match apure P o A σ with|some v=>K v A σ|none=>False
 | .makeMap t r=>aOth P (.makeMap t r) (evalA A) σ fun v σ'=>K v A σ'
 | .mapUpdate t m k x=>aOth P (.mapUpdate t m k x) (evalA A) σ fun v σ'=>K v A σ'
 | .lookup t m k ok=>aOth P (.lookup t m k ok) (evalA A) σ fun v σ'=>K v A σ'
 | .range t x=>aOth P (.range t x) (evalA A) σ fun v σ'=>K v A σ'
 | .next it b=>aOth P (.next it b) (evalA A) σ fun v σ'=>K v A σ'
 | .entry it=>aOth P (.entry it) (evalA A) σ fun v σ'=>K v A σ'
 |_=>match apure P o A σ with|some v=>K v A σ|none=>False
theorem take_does {P:Program} {D:Nat→Prop} {n:Nat} {G:Ghost} {A:Slots} {σ:Store} {a:Act} {w:World} (h:Rel D n G A σ a w) {o:Oper} {K:AV→Slots→Store→Prop} {x:Operand}
  (hr:(execOp a.eval o).run P w= .ok (.value (a.eval x)) w) (hK:takeA A x fun v A'=>K (conv P o.type v) A' σ):Does P D n G a w o K:=by
 obtain ⟨v,A',G',hk,hR,hv,hown,hext,hF⟩:=h.takes hK
 exact ⟨_,_,A',σ,G',w,hk, .inl hr,hR,conv_VR hv,conv_own hv hown,hext⟩
theorem pure_does {P:Program} {D:Nat→Prop} {n:Nat} {G:Ghost} {A:Slots} {σ:Store} {a:Act} {w:World} (h:Rel D n G A σ a w) {o:Oper} {K:AV→Slots→Store→Prop}
  (hK:match apure P o A σ with|some v=>K v A σ|none=>False):Does P D n G a w o K:=by
 split at hK
 ·rename_i v hv
  obtain ⟨cv,h1,h2,h3⟩:=apure_sound hv h
  exact ⟨v,cv,A,σ,G,w,hK, .inl h1,h,h2,h3,Ext.refl ..⟩
 ·exact hK.elim
theorem astep_sound {P:Program} {st:List Tmp} {D:Nat→Prop} {n:Nat} {G:Ghost} {A:Slots} {σ:Store} {a:Act} {w:World} (h:Rel D n G A σ a w) {o:Oper} {K:AV→Slots→Store→Prop}
  (hK:astep P st o A σ K):Does P D n G a w o K:=by
 unfold astep at hK
 split at hK
 ·rename_i x ho
  split at hK
  ·exact aFreeze_sound h ho hK
  split at hK
  ·obtain ⟨v,A',G',hk,hR,hv,hown,hext,hF⟩:=h.takes hK
   exact ⟨_,_,A',σ,G',w,hk, .inl (by simp[execOp,ho]),hR,hv,hown,hext⟩
  ·exact take_does h (by simp[execOp,ho]) hK
 ·rename_i t ho
  split at hK
  ·exact take_does h (by simp[execOp,ho]) hK
  ·exact ⟨_,_,A,σ,G,w,hK, .inl (by simp[execOp,ho]),h,(h.eval (.tmp t)).share,OwnAt.share ..,Ext.refl ..⟩
 ·rename_i t y ho
  split at hK
  ·exact aLoadTake_sound h ho hK
  ·split at hK
   ·rename_i v hv
    have h0:Rel D n G A (pst st o σ) a w:=by
     unfold pst
     split
     ·exact ⟨h.defers,h.size,h.val,h.own,h.world.forget fun _=> .inl rfl,h.fresh⟩
     ·exact h
    obtain ⟨cv,h1,h2,h3⟩:=apure_sound hv h0
    exact ⟨v,cv,A,σ,G,w,hK, .inl h1,h,h2,h3,Ext.refl ..⟩
   ·exact hK.elim
 ·rename_i e ho
  split at hK
  ·exact aAllocRaw_sound h ho hK
  ·exact aAlloc_sound h ho hK
 ·rename_i e x ho
  split at hK
  ·exact aBoxFix_sound h ho hK
  ·exact aBox_sound h ho hK
 ·rename_i t y x ho;exact fixK_sound (aStore_sound h ho hK)
 ·rename_i t len parts ho
  split at hK
  ·exact aBuildObj_sound h ho hK
  ·split at hK
   ·rename_i v hv;exact aBuildSlice_sound h ho hv hK
   ·exact hK.elim
 ·rename_i t x y ho;exact aMake_sound h ho hK
 ·rename_i op t x y t' ho
  split at hK
  ·rename_i hy
   split at hK
   ·exact aNilTest_sound h (.inl ⟨rfl,rfl⟩) ho hy hK
   ·exact aNilTest_sound h (.inr ⟨rfl,rfl⟩) ho hy hK
   ·exact hK.elim
  ·exact pure_does h hK
 ·rename_i src dst x ho
  split at hK
  ·exact aConvSame_sound h ho hK
  rename_i hne
  split at hK
  ·exact aConvRow_sound h ho hne hK
  ·exact pure_does h hK
 ·rename_i t x lo hi mx ho
  split at hK
  ·rename_i hs
   simp only[sliceTake,Bool.and_eq_true,Option.isNone_iff_eq_none] at hs
   obtain ⟨⟨_,rfl⟩,rfl⟩:=hs
   exact aSliceOwn_sound h ho hK
  ·exact pure_does h hK
 ·rename_i t ix ho;exact aExtract_sound h ho hK
 ·rename_i t parts ho
  split at hK
  ·exact aBuildTake_sound h ho hK
  ·exact pure_does h hK
 ·rename_i c ho
  obtain ⟨callee,args,argTypes⟩:=c
  dsimp only at hK ho
  split at hK
  ·rename_i s x t t' hargs hts
   have e1:args= #[s,x]:=by rw[←Array.toArray_toList (xs:=args),hargs]
   have e2:argTypes= #[t,t']:=by rw[←Array.toArray_toList (xs:=argTypes),hts]
   subst e1 e2
   split at hK
   ·rename_i htt;subst htt
    split at hK
    ·split at hK
     ·exact aAppendRow_sound h ho hK
     ·exact aAppendObj_sound h ho hK
    ·exact aAppend_sound h ho hK
   ·exact aAppendStr_sound h ho hK
  ·rename_i x y t t' hargs hts
   have e1:args= #[x,y]:=by rw[←Array.toArray_toList (xs:=args),hargs]
   have e2:argTypes= #[t,t']:=by rw[←Array.toArray_toList (xs:=argTypes),hts]
   subst e1 e2
   exact aCopy_sound h ho hK
  ·rename_i x t hargs hts
   have e1:args= #[x]:=by rw[←Array.toArray_toList (xs:=args),hargs]
   have e2:argTypes= #[t]:=by rw[←Array.toArray_toList (xs:=argTypes),hts]
   subst e1 e2
   split at hK
   ·exact aMapLen_sound h ho hK
   ·exact pure_does h hK
  ·exact pure_does h hK
 ·rename_i t r ho;exact aOth_sound h (by rw[ho];exact hK)
 ·rename_i t m k x ho;exact aOth_sound h (by rw[ho];exact hK)
 ·rename_i t m k ok ho;exact aOth_sound h (by rw[ho];exact hK)
 ·rename_i t x ho;exact aOth_sound h (by rw[ho];exact hK)
 ·rename_i it b ho;exact aOth_sound h (by rw[ho];exact hK)
 ·rename_i it ho;exact aOth_sound h (by rw[ho];exact hK)
 ·exact pure_does h hK
end Go.AL
namespace Go.AL
open Go Go.RowKit Classical
variable [GL]
set_option linter.unusedSectionVars false
def ACalls (P:Program) (f:FuncId) (args:List AV) (σ:Store) (R:AV→Store→Prop):Prop:=
 ∀(D:Nat→Prop) (G:Ghost) (w:World) (cargs:Array Value),args.length=cargs.size→
  (∀(i:Nat) (c:AV) (u:Value),args[i]?=some c→cargs[i]?=some u→VR G.F c u∧OwnAt G D (.arg i) c u)→WR D G σ w→(∀k,w.heap.size≤k→D k)→
  Calls P f cargs w fun e w'=>∃v cv G' σ',e= .returned cv∧R v σ'∧VR G'.F v cv∧OwnAt G' D .acc v cv∧WR D G' σ' w'∧Ext D G w G' w'
theorem ACalls.mono {P:Program} {f:FuncId} {args:List AV} {σ:Store} {R R':AV→Store→Prop} (h:ACalls P f args σ R) (hr:∀v σ',R v σ'→R' v σ'):ACalls P f args σ R':=
 fun D G w cargs h1 h2 h3 h4=>(h D G w cargs h1 h2 h3 h4).mono fun _ _ ⟨v,cv,G',σ',he,hR,rest⟩=>⟨v,cv,G',σ',he,hr _ _ hR,rest⟩
theorem ACalls.frame {P:Program} {f:FuncId} {args:List AV} {σ:Store} {R:AV→Store→Prop} (hc:ACalls P f args σ R) {D:Nat→Prop} {n:Nat} {G:Ghost} {A:Slots} {a:Act} {w:World} (h:Rel D n G A σ a w)
  {cargs:Array Value} (hl:args.length=cargs.size) (hargs:∀(i:Nat) (c:AV) (u:Value),args[i]?=some c→cargs[i]?=some u→VR G.F c u∧OwnAt G D (.arg i) c u):
  Calls P f cargs w fun e w'=>∃v cv G' σ',e= .returned cv∧R v σ'∧VR G'.F v cv∧OwnAt G' D .acc v cv∧Rel D n G' A σ' a w'∧Ext D G w G' w':=by
 let Dc:Nat→Prop:=fun k=>w.heap.size≤k∨(∃cs,σ k=some cs)∨(D k∧∃m z i j,G.S k=some (m,z, .arg i j))∨(D k∧∃m z o j,G.S k=some (m,z, .obj o j))∨∃cs,σ (mkey k)=some cs
 have hsub:∀k,Dc k→D k:=by
  rintro k (h1|⟨cs,h2⟩|h3|h4|⟨cs,h5⟩)
  ·exact h.fresh k h1
  ·exact (h.world.obj k cs h2).1
  ·exact h3.1
  ·exact h4.1
  ·exact (h.world.oth k cs h5).1
 have own1:∀ {π:Place} {c:AV} {u:Value},(∀g m z,D g→G.S g=some (m,z,π)→Dc g)→Own1 G D π c u→Own1 G Dc π c u:=by
  intro π c u hd ho
  unfold Own1 at*
  split at ho
  ·rcases ho with ho|⟨h1,z,h2,h3⟩
   ·exact .inl ho
   ·exact .inr ⟨hd _ _ _ h1 h2,z,h2,h3⟩
  ·trivial
 have hW:WR Dc G σ w:=by
  refine ⟨h.world.frz,h.world.own,fun o cs hcs=> ?_,h.world.laid,fun g cs hg=>⟨.inr (.inr (.inr (.inr ⟨cs,hg⟩))),(h.world.oth g cs hg).2⟩,h.world.vars⟩
  obtain ⟨h1,h2,h3,cur,e,h4,h5,h6⟩:=h.world.obj o cs hcs
  refine ⟨.inr (.inl ⟨cs,hcs⟩),h2,h3,cur,e,h4,h5,fun i c u hc hu=> ?_⟩
  obtain ⟨q1,q2,q3⟩:=h6 i c u hc hu
  exact ⟨q1,q2,own1 (fun g m z hd hg=> .inr (.inr (.inr (.inl ⟨hd,m,z,o,i,hg⟩)))) q3⟩
 have hA:∀(i:Nat) (c:AV) (u:Value),args[i]?=some c→cargs[i]?=some u→VR G.F c u∧OwnAt G Dc (.arg i) c u:=by
  intro i c u hci hui
  obtain ⟨q1,q2⟩:=hargs i c u hci hui
  refine ⟨q1, ?_⟩
  have hd:∀j g m z,D g→G.S g=some (m,z, .arg i j)→Dc g:=fun j g m z hd hg=> .inr (.inr (.inl ⟨hd,m,z,i,j,hg⟩))
  unfold OwnAt at q2⊢
  split at q2
  ·exact fun j c u hc hu=>own1 (hd j) (q2 j c u hc hu)
  ·exact fun j c u hc hu=>own1 (hd j) (q2 j c u hc hu)
  ·exact own1 (hd 0) q2
 refine (hc Dc G w cargs hl hA hW (fun k hk=> .inl hk)).mono ?_
 rintro e w' ⟨v,cv,G',σ',he,hR,hv,ho,hW',hext⟩
 refine ⟨v,cv,G',σ',he,hR,hv,ho.wide hsub,h.step hext.frz (fun g m z i j hd hg=> ?_) (hW'.wide hsub) hext.size,hext.wide hsub⟩
 have hnot:¬Dc g:=by
  obtain ⟨q1,⟨c,e',⟨_,q2,_⟩,_⟩,_⟩:=h.world.own g m z _ hg
  rintro (h1|⟨cs,h2⟩|⟨_,m',z',i',j',h3⟩|⟨_,m',z',i',j',h3⟩|⟨cs,h5⟩)
  ·have:=(Array.getElem?_eq_some_iff.1 q2).1;omega
  ·rw[q1] at h2;cases h2
  ·rw[hg] at h3;simp at h3
  ·rw[hg] at h3;simp at h3
  ·exact h.world.oth_own h5 hg
 rw[(hext.block g hnot).2.1];exact hg
def takeArgs (P:Program):List Operand→List TypeId→Slots→(List AV→Slots→Prop)→Prop
 |[],_,A,K=>K [] A
 |x::xs,ts,A,K=>takeA A x fun v A'=>takeArgs P xs ts.tail A' fun vs A''=>K (conv P (ts.headD 0) v::vs) A''
def toArg (i:Nat):Place→Place
 | .acc j=> .arg i j
 |π=>π
theorem takeArgs_sound {P:Program} {D:Nat→Prop} {n:Nat} {σ:Store} {a:Act} {w:World} :∀(xs:List Operand) (ts:List TypeId) (k:Nat) {G:Ghost} {A:Slots} {K:List AV→Slots→Prop},Rel D n G A σ a w→takeArgs P xs ts A K→
  ∃vs A' G',K vs A'∧Rel D n G' A' σ a w∧vs.length=xs.length∧(∀(i:Nat) (c:AV) (x:Operand),vs[i]?=some c→xs[i]?=some x→VR G'.F c (a.eval x)∧OwnAt G' D (.arg (k+i)) c (a.eval x))∧Ext D G w G' w∧
   G'.F=G.F∧∀g m z i j,i<k→D g→G.S g=some (m,z, .arg i j)→G'.S g=some (m,z, .arg i j)
 |[],_,k,G,A,K,h,hK=>⟨[],A,G,hK,h,rfl,by simp,Ext.refl ..,rfl,fun _ _ _ _ _ _ _ h=>h⟩
 |x::xs,ts,k,G,A,K,h,hK=>by
  have step:∃v A1 G1,(takeArgs P xs ts.tail A1 fun vs A''=>K (conv P (ts.headD 0) v::vs) A'')∧Rel D n G1 A1 σ a w∧VR G1.F v (a.eval x)∧OwnAt G1 D (.arg k) v (a.eval x)∧Ext D G w G1 w∧G1.F=G.F∧
    ∀g m z i j,i<k→D g→G.S g=some (m,z, .arg i j)→G1.S g=some (m,z, .arg i j):=by
   have plain:∀y:Operand,(evalA A y).plain=true→(takeArgs P xs ts.tail A fun vs A''=>K (conv P (ts.headD 0) (evalA A y)::vs) A'')→y=x→∃v A1 G1,(takeArgs P xs ts.tail A1 fun vs A''=>K (conv P (ts.headD 0) v::vs) A'')∧Rel D n G1 A1 σ a w∧VR G1.F v (a.eval x)∧OwnAt G1 D (.arg k) v (a.eval x)∧Ext D G w G1 w∧G1.F=G.F∧
     ∀g m z i j,i<k→D g→G.S g=some (m,z, .arg i j)→G1.S g=some (m,z, .arg i j):=by
    rintro y hp hk rfl
    exact ⟨_,A,G,hk,h,h.eval y,OwnAt.of_plain hp,Ext.refl ..,rfl,fun _ _ _ _ _ _ _ h=>h⟩
   cases x with
   |const c=>exact plain (.const c) rfl hK rfl
   |global g=>exact plain (.global g) (evalA_global_plain A g) hK rfl
   |func f=>exact plain (.func f) rfl hK rfl
   |tmp t=>
    let f:Place→Place:=fun π=>match π with| .slot i j=>if i=t then .arg k j else .slot i j|π=>π
    refine ⟨A t,_,G.mv D f,hK,⟨h.defers,h.size,fun i=> ?_,fun i=> ?_,h.world.mv _ (fun _ _=>rfl),h.fresh⟩,h.val t, ?_,Ext.mv ..,rfl,fun g m z i j _ hd hg=>by rw[Ghost.mv_some hd hg]⟩
    ·simp only[upd];split
     ·rename_i hi;subst hi;exact (h.val i).share
     ·exact h.val i
    ·simp only[upd];split
     ·exact OwnAt.share ..
     ·rename_i hi
      exact (h.own i).re fun g m z j hd hg=>by rw[Ghost.mv_some hd hg];simp[f,hi]
    ·exact (h.own t).re fun g m z j hd hg=>by rw[Ghost.mv_some hd hg];simp[f]
  obtain ⟨v,A1,G1,hk1,hR1,hv1,ho1,hext1,hF1,hkeep1⟩:=step
  obtain ⟨vs,A',G',hk',hR',hl',hvs',hext',hF',hkeep'⟩:=takeArgs_sound xs ts.tail (k+1) hR1 hk1
  refine ⟨conv P (ts.headD 0) v::vs,A',G',hk',hR',by simp[hl'],fun i c y hc hy=> ?_,hext1.trans hext',hF'.trans hF1,fun g m z i j hi hd hg=>hkeep' g m z i j (by omega) hd (hkeep1 g m z i j hi hd hg)⟩
  cases i with
  |zero=>
   simp at hc hy;subst hc hy
   refine ⟨conv_VR (by rw[hF'];exact hv1),conv_own (F:=G1.F) hv1 (ho1.re fun g m z j hd hg=>hkeep' g m z k j (by omega) hd hg)⟩
  |succ i=>
   simp at hc hy
   have:=hvs' i c y hc hy
   rwa[show k+1+i=k+(i+1) from by omega] at this
def callable (P:Program) (f:FuncId):Bool:=
 match P.funcs[f]? with
 |some fn=>fn.body.isSome&& !(fn.name== "runtime.NumGoroutine")
 |none=>false
def AExt (P:Program) (f:FuncId) (args:List AV) (σ:Store) (R:AV→Store→Prop):Prop:=
 ∀(D:Nat→Prop) (G:Ghost) (w:World) (cargs:Array Value),args.length=cargs.size→(∀(i:Nat) (c:AV) (u:Value),args[i]?=some c→cargs[i]?=some u→VR G.F c u)→WR D G σ w→
  ∃v cv,(callFunc f cargs).run P w= .ok (.value cv) w∧v.plain=true∧VR G.F v cv∧R v σ
theorem AExt.mono {P:Program} {f:FuncId} {args:List AV} {σ:Store} {R R':AV→Store→Prop} (h:AExt P f args σ R) (hr:∀v σ',R v σ'→R' v σ'):AExt P f args σ R':=
 fun D G w cargs h1 h2 h3=>let ⟨v,cv,q1,q2,q3,q4⟩:=h D G w cargs h1 h2 h3;⟨v,cv,q1,q2,q3,hr _ _ q4⟩
def ACallX (P:Program) (f:FuncId) (args:List AV) (σ:Store) (R:AV→Store→Prop):Prop:=if callable P f=true then ACalls P f args σ R else AExt P f args σ R
theorem ACallX.mono {P:Program} {f:FuncId} {args:List AV} {σ:Store} {R R':AV→Store→Prop} (h:ACallX P f args σ R) (hr:∀v σ',R v σ'→R' v σ'):ACallX P f args σ R':=by
 unfold ACallX at*
 split at h
 ·rename_i hc;rw[if_pos hc];exact h.mono hr
 ·rename_i hc;rw[if_neg hc];exact h.mono hr
def callTys (raw:Bool) (ts:List TypeId):List TypeId:=if raw=true then [] else ts
def aoper (P:Program) (st:List Tmp) (o:Oper) (A:Slots) (σ:Store) (K:AV→Slots→Store→Prop):Prop:=
 match o.op with
 | .call c=>match c.callee with
  | .value f=>match evalA A f with
   | .func (.func f) first captured=>takeArgs P c.args.toList (callTys (objs st o) c.argTypes.toList) A fun vs A'=>ACallX P f (first.map AV.share++vs++captured.map AV.share) σ fun v σ'=>K v A' σ'
   |_=>False
  |_=>astep P st o A σ K
 |_=>astep P st o A σ K
theorem run_callFunc {P:Program} {f:FuncId} (h:callable P f=true) (args:Array Value) (w:World):(callFunc f args).run P w= .ok (.enter f args) w:=by
 unfold callable at h
 cases hf:P.funcs[f]? with
 |none=>simp[hf] at h
 |some fn=>
  simp[hf] at h
  obtain ⟨h1,h2⟩:=h
  obtain ⟨b,hb⟩:=Option.isSome_iff_exists.1 h1
  simp[callFunc,hf,hb,h2]
theorem plain_list {vs:List AV} {F:Frz} {us:Array Value} (h:∀(i:Nat) (c:AV) (u:Value),vs[i]?=some c→us[i]?=some u→VR F c u) (G:Ghost) (D:Nat→Prop) (r:Nat→Nat→Place):
  ∀(i:Nat) (c:AV) (u:Value),(vs.map AV.share)[i]?=some c→us[i]?=some u→VR F c u∧OwnAt G D (r i) c u:=by
 intro i c u hc hu
 rw[List.getElem?_map] at hc
 cases hv:vs[i]? with
 |none=>simp[hv] at hc
 |some v=>simp[hv] at hc;subst hc;exact ⟨(h i v u hv hu).share,OwnAt.share ..⟩
end Go.AL
namespace Go.AL
open Go Go.RowKit Classical
variable [GL]
set_option linter.unusedSectionVars false
def aput (A:Slots) (dst:Option Tmp) (v:AV):Slots:=
 match dst with
 |some d=>upd A d v
 |none=>A
theorem Rel.aput {D:Nat→Prop} {n:Nat} {G:Ghost} {A:Slots} {σ:Store} {a:Act} {w:World} (h:Rel D n G A σ a w) {v:AV} {cv:Value} (hv:VR G.F v cv) (ho:OwnAt G D .acc v cv) {dst:Option Tmp} (hd:∀d,dst=some d→d<n):
  ∃G',Rel D n G' (aput A dst v) σ (a.put dst cv) w∧Ext D G w G' w:=by
 cases dst with
 |none=>exact ⟨G,h,Ext.refl ..⟩
 |some d=>exact ⟨_,h.put hv ho (hd d rfl),Ext.mv ..⟩
theorem takeA_mono {A:Slots} {x:Operand} {K K':AV→Slots→Prop} (h:takeA A x K) (hk:∀v A',K v A'→K' v A'):takeA A x K':=by
 cases x<;>exact hk _ _ h
theorem takeArgs_mono {P:Program} :∀(xs:List Operand) (ts:List TypeId) {A:Slots} {K K':List AV→Slots→Prop},takeArgs P xs ts A K→(∀v A',K v A'→K' v A')→takeArgs P xs ts A K'
 |[],_,_,_,_,h,hk=>hk _ _ h
 |_::xs,ts,_,_,_,h,hk=>takeA_mono h fun _ _ h'=>takeArgs_mono xs ts.tail h' fun _ _=>hk _ _
theorem fillTake_mono {P:Program} {t:TypeId} :∀(parts:List (Nat×Operand)) (cs:List AV) {A:Slots} {K K':List AV→Slots→Prop},fillTake P t parts cs A K→(∀v A',K v A'→K' v A')→fillTake P t parts cs A K'
 |[],_,_,_,_,h,hk=>hk _ _ h
 |(i,x)::rest,cs,A,K,K',h,hk=>by
  simp only[fillTake] at*
  split at h
  ·exact takeA_mono h fun v A' ⟨h1,h2,h3,h4⟩=>⟨h1,h2,h3,fillTake_mono rest _ h4 hk⟩
  ·exact h
theorem astep_mono {P:Program} {st:List Tmp} {o:Oper} {A:Slots} {σ:Store} {K K':AV→Slots→Store→Prop} (h:astep P st o A σ K) (hk:∀v A' σ',K v A' σ'→K' v A' σ'):astep P st o A σ K':=by
 have pm:(match apure P o A σ with|some v=>K v A σ|none=>False)→(match apure P o A σ with|some v=>K' v A σ|none=>False):=by
  intro h;split at h
  ·exact hk _ _ _ h
  ·exact h
 unfold astep at*
 generalize steals st o=steal at*
 generalize objs st o=ob at*
 generalize frees st o=fr at*
 generalize o.op=op at h⊢
 cases op with
 |assign x=>
  dsimp only at*
  split at h
  ·rename_i hs;rw[if_pos hs];exact aFreeze_mono h fun _ _=>hk _ _ _
  rename_i hs0;rw[if_neg hs0]
  split at h
  ·rename_i hs;rw[if_pos hs];exact takeA_mono h fun _ _=>hk _ _ _
  ·rename_i hs;rw[if_neg hs];exact takeA_mono h fun _ _=>hk _ _ _
 |move x=>
  cases x with
  |tmp t=>
   dsimp only at*
   split at h
   ·rename_i hs;rw[if_pos hs];exact takeA_mono h fun _ _=>hk _ _ _
   ·rename_i hs;rw[if_neg hs];exact hk _ _ _ h
  |_=>exact pm h
 |load t y=>
  dsimp only at*
  split at h
  ·rename_i hs;rw[if_pos hs]
   unfold aLoadTake aLoadTakeAgg at*
   (repeat' split at h)<;>first|exact hk _ _ _ h|exact ⟨h.1,hk _ _ _ h.2⟩|exact False.elim h
  ·rename_i hs;rw[if_neg hs];split at h<;>first|exact hk _ _ _ h|exact h
 |alloc e=>
  dsimp only[aAlloc,aAllocRaw] at*
  split at h
  ·rename_i hs;rw[if_pos hs]
   split at h
   ·exact fun p hp hp'=>hk _ _ _ (h p hp hp')
   ·exact h
  ·rename_i hs;rw[if_neg hs]
   split at h
   ·exact fun p hp=>hk _ _ _ (h p hp)
   ·exact h
 |box e x=>
  dsimp only at*
  split at h
  ·rename_i hs;rw[if_pos hs];exact takeA_mono h fun v A' h'=>⟨h'.1,hk _ _ _ h'.2⟩
  ·rename_i hs;rw[if_neg hs];exact takeA_mono h fun v A' h'=>⟨h'.1,fun p hp=>hk _ _ _ (h'.2 p hp)⟩
 |store t y x=>
  dsimp only[aStore] at*
  split at h
  ·split at h
   ·exact takeA_mono h fun _ _ ⟨h1,h2,h3,h4⟩=>⟨h1,h2,h3,fixK_mono hk h4⟩
   ·exact h
  ·exact h
 |buildSlice t len parts=>
  dsimp only at*
  split at h
  ·rename_i hs;rw[if_pos hs]
   unfold aBuildObj at*
   (repeat' split at h)<;>first
    |exact False.elim h
    |exact ⟨h.1,h.2.1,fun p hp=>hk _ _ _ (h.2.2 p hp)⟩
    |exact fun p hp=>hk _ _ _ (h p hp)
    |(obtain ⟨q1,q2,q3,q4,h⟩:=h;exact ⟨q1,q2,q3,q4,takeA_mono h fun v A' ⟨r1,r2,r3⟩=>⟨r1,r2,fun p hp=>hk _ _ _ (r3 p hp)⟩⟩)
  ·rename_i hs;rw[if_neg hs]
   split at h
   ·exact hk _ _ _ h
   ·exact h
 |build t parts=>
  dsimp only at*
  split at h
  ·rename_i hs;rw[if_pos hs]
   unfold aBuildTake at*
   split at h
   ·exact fillTake_mono _ _ h fun _ _=>hk _ _ _
   ·exact h
  ·rename_i hs;rw[if_neg hs];exact pm h
 |makeSlice t x y=>
  dsimp only[aMake] at*
  split at h
  ·split at h
   ·obtain ⟨h1,h2,h3,h4,h5,h6,h7,h8⟩:=h
    refine ⟨h1,h2,h3,h4,h5,h6,h7, ?_⟩
    split at h8
    ·rename_i hs;rw[if_pos hs];exact hk _ _ _ h8
    ·rename_i hs;rw[if_neg hs]
     split at h8
     ·rename_i hs2;rw[if_pos hs2];exact fun p hp=>hk _ _ _ (h8 p hp)
     ·rename_i hs2;rw[if_neg hs2];exact fun p hp=>hk _ _ _ (h8 p hp)
   ·exact h
  ·exact h
 |binOp op t x y t'=>
  dsimp only at*
  split at h
  ·rename_i hs;rw[if_pos hs]
   cases op<;>first
    |exact False.elim h
    |(dsimp only[aNilTest] at*
      split at h
      ·exact fun r hr=>hk _ _ _ (h r hr)
      ·exact hk _ _ _ h
      ·exact hk _ _ _ h
      ·exact h)
  ·rename_i hs;rw[if_neg hs];exact pm h
 |convert src dst x=>
  dsimp only at*
  split at h
  ·rename_i hs;rw[if_pos hs]
   obtain ⟨q1,q2,q3⟩:=h
   refine ⟨q1,q2,takeA_mono q3 fun v A' hh=> ?_⟩
   split at hh
   ·exact hk _ _ _ hh
   ·exact hh
  rename_i hs;rw[if_neg hs]
  split at h
  ·rename_i hs2;rw[if_pos hs2]
   unfold aConvRow at*
   split at h
   ·exact ⟨h.1,h.2.1,hk _ _ _ h.2.2⟩
   ·exact ⟨h.1,h.2.1,hk _ _ _ h.2.2⟩
   ·refine ⟨h.1,h.2.1, ?_⟩
    have h3:=h.2.2
    split at h3
    ·refine ⟨h3.1, ?_⟩
     have h4:=h3.2
     split at h4
     ·exact hk _ _ _ h4
     ·exact h4
    ·exact h3
   ·exact ⟨h.1,h.2.1,hk _ _ _ h.2.2⟩
   ·exact h
  ·rename_i hs2;rw[if_neg hs2];exact pm h
 |slice t x lo hi mx=>
  dsimp only at*
  split at h
  ·rename_i hs;rw[if_pos hs]
   unfold aSliceOwn at*
   refine takeA_mono h fun v A' hh=> ?_
   split at hh
   ·split at hh
    ·exact ⟨hh.1,hh.2.1,hh.2.2.1,hk _ _ _ hh.2.2.2⟩
    ·exact hh
   ·exact hh
  ·rename_i hs;rw[if_neg hs];exact pm h
 |extract x ix=>
  cases x with
  |tmp t=>
   dsimp only[aExtract] at*
   split at h
   ·split at h
    ·exact hk _ _ _ h
    ·exact h
   ·exact h
  |_=>exact pm h
 |call c=>
  dsimp only at*
  split at h
  ·split at h
   ·rename_i htt;rw[if_pos htt]
    split at h
    ·rename_i hs;rw[if_pos hs]
     split at h
     ·rename_i hr;rw[if_pos hr]
      unfold aAppendRow at*
      (repeat' split at h)<;>first
       |exact False.elim h
       |(obtain ⟨q1,q2,q3,q4,q5,q6,q7,q8⟩:=h;exact ⟨q1,q2,q3,q4,q5,q6,q7,fun p hp=>hk _ _ _ (q8 p hp)⟩)
     ·rename_i hr;rw[if_neg hr]
      unfold aAppendObj at*
      (repeat' split at h)<;>first
       |exact False.elim h
       |(obtain ⟨q1,q2,q3,q4,q5,q6,q7,q8⟩:=h;exact ⟨q1,q2,q3,q4,q5,q6,fun h0=>hk _ _ _ (q7 h0),fun h0 p cap h1 h2 h3=>hk _ _ _ (q8 h0 p cap h1 h2 h3)⟩)
    ·rename_i hs;rw[if_neg hs]
     unfold aAppend at*
     split at h
     ·split at h
      ·split at h
       ·refine takeA_mono h fun v A' h3=> ?_
        split at h3
        ·obtain ⟨q1,q2,q3,q4,q5,q6,q7⟩:=h3;exact ⟨q1,q2,q3,q4,q5,q6,hk _ _ _ q7⟩
        ·exact h3
       ·exact h
      ·exact h
     ·exact h
   ·rename_i htt;rw[if_neg htt]
    unfold aAppendStr at*
    split at h
    ·split at h
     ·split at h
      ·refine takeA_mono h fun v A' h3=> ?_
       split at h3
       ·obtain ⟨q1,q2,q3,q4,q5,q6,q7⟩:=h3;exact ⟨q1,q2,q3,q4,q5,q6,hk _ _ _ q7⟩
       ·exact h3
      ·exact h
     ·exact h
    ·exact h
  ·unfold aCopy at*
   split at h
   ·exact ⟨h.1,h.2.1,hk _ _ _ h.2.2⟩
   ·exact h
  ·split at h
   ·rename_i hs;rw[if_pos hs];exact aMapLen_mono h fun _=>hk _ _ _
   ·rename_i hs;rw[if_neg hs];exact pm h
  ·exact pm h
 |makeMap t r=>exact aOth_mono h fun _ _=>hk _ _ _
 |mapUpdate t m k x=>exact aOth_mono h fun _ _=>hk _ _ _
 |lookup t m k ok=>exact aOth_mono h fun _ _=>hk _ _ _
 |range t x=>exact aOth_mono h fun _ _=>hk _ _ _
 |next it b=>exact aOth_mono h fun _ _=>hk _ _ _
 |entry it=>exact aOth_mono h fun _ _=>hk _ _ _
 |_=>exact pm h
theorem aoper_mono {P:Program} {st:List Tmp} {o:Oper} {A:Slots} {σ:Store} {K K':AV→Slots→Store→Prop} (h:aoper P st o A σ K) (hk:∀v A' σ',K v A' σ'→K' v A' σ'):aoper P st o A σ K':=by
 have am:=fun h=>astep_mono (P:=P) (st:=st) (o:=o) (A:=A) (σ:=σ) (K:=K) (K':=K') h hk
 unfold aoper at*
 generalize o.op=op at h⊢
 cases op with
 |call c=>
  dsimp only at*
  cases hc:c.callee with
  |value f=>
   rw[hc] at h
   dsimp only at*
   split at h
   ·exact takeArgs_mono _ _ h fun _ _ hc=>hc.mono fun _ _=>hk _ _ _
   ·exact h
  |_=>rw[hc] at h;exact am h
 |_=>exact am h
def lift (D:Nat→Prop) (n:Nat) (G:Ghost) (w:World) (Q:Slots→Store→Prop) (a':Act) (w':World):Prop:=
 ∃G' A' σ',Q A' σ'∧Rel D n G' A' σ' a' w'∧Ext D G w G' w'
theorem lift_trans {D:Nat→Prop} {n:Nat} {G G1:Ghost} {w w1:World} {Q:Slots→Store→Prop} {a':Act} {w':World} (h:Ext D G w G1 w1) (k:lift D n G1 w1 Q a' w'):lift D n G w Q a' w':=by
 obtain ⟨G',A',σ',h1,h2,h3⟩:=k
 exact ⟨G',A',σ',h1,h2,h.trans h3⟩
theorem aoper_sound {P:Program} {st:List Tmp} {D:Nat→Prop} {n:Nat} {G:Ghost} {A:Slots} {σ:Store} {a:Act} {w:World} (h:Rel D n G A σ a w) {o:Oper} {K:AV→Slots→Store→Prop} (hK:aoper P st o A σ K)
  (hd:∀d,o.dst=some d→d<n) (Q:Exit→Act→World→Prop):o.wp P a w (lift D n G w fun A' σ'=>∃v A0,K v A0 σ'∧A'=aput A0 o.dst v) Q:=by
 have fin:∀ {v:AV} {cv:Value} {A':Slots} {σ':Store} {G':Ghost} {w':World},K v A' σ'→Rel D n G' A' σ' a w'→VR G'.F v cv→OwnAt G' D .acc v cv→Ext D G w G' w'→
   lift D n G w (fun A' σ'=>∃v A0,K v A0 σ'∧A'=aput A0 o.dst v) (a.put o.dst cv) w':=by
  intro v cv A' σ' G' w' hk hR hv ho hext
  obtain ⟨G2,h1,h2⟩:=hR.aput hv ho hd
  exact ⟨G2,_,σ',⟨v,A',hk,rfl⟩,h1,hext.trans h2⟩
 have step:astep P st o A σ K→o.wp P a w (lift D n G w fun A' σ'=>∃v A0,K v A0 σ'∧A'=aput A0 o.dst v) Q:=by
  intro hs
  obtain ⟨v,cv,A',σ',G',w',hk,hr,hR,hv,ho,hext⟩:=astep_sound h hs
  unfold Oper.wp
  rcases hr with hr|⟨hr,rfl⟩<;>rw[hr]
  ·exact fin hk hR hv ho hext
  ·exact fin hk hR hv ho hext
 unfold aoper at hK
 split at hK
 ·rename_i c hop
  split at hK
  ·rename_i f hcallee
   split at hK
   case h_2=>exact hK.elim
   rename_i g first captured hf
   obtain ⟨vs,A',G1,hC,hR1,hl,hvs,hext1,hF1,_⟩:=takeArgs_sound _ _ first.length h hK
   have hfv:=h.eval f
   rw[hf] at hfv
   generalize hfe:a.eval f=fv at hfv
   cases hfv with|func _ _ _ ufs ucs l1 l2 v1 v2=> ?_
   rw[←hF1] at v1 v2
   have hall:∀(i:Nat) (cc:AV) (u:Value),(first.map AV.share++vs++captured.map AV.share)[i]?=some cc→(ufs++c.args.map a.eval++ucs)[i]?=some u→VR G1.F cc u∧OwnAt G1 D (.arg i) cc u:=(fun i cc u hc hu=>by
    rw[List.getElem?_append,List.getElem?_append] at hc
    rw[Array.getElem?_append,Array.getElem?_append] at hu
    simp only[List.length_append,List.length_map,Array.size_append,Array.size_map,l1,hl,Array.length_toList] at hc hu
    split at hc
    ·rename_i hi1
     rw[if_pos hi1] at hu
     split at hc
     ·rename_i hi2
      rw[if_pos hi2] at hu
      exact plain_list (F:=G1.F) v1 G1 D .arg i cc u hc hu
     ·rename_i hi2
      rw[if_neg hi2] at hu
      rw[Array.getElem?_map] at hu
      cases hx:c.args[i-ufs.size]? with
      |none=>simp[hx] at hu
      |some x=>
       simp[hx] at hu;subst hu
       have:=hvs (i-ufs.size) cc x hc (by simpa using hx)
       rwa[show first.length+(i-ufs.size)=i from by simp at hi2;omega] at this
    ·rename_i hi1
     rw[if_neg hi1] at hu
     have:=plain_list (F:=G1.F) v2 G1 D (fun _=> .arg i) (i-(ufs.size+c.args.size)) cc u hc hu
     exact this)
   by_cases hcal:callable P g=true
   case neg=>
    unfold ACallX at hC
    rw[if_neg hcal] at hC
    obtain ⟨v,cv,q1,q2,q3,q4⟩:=hC D G1 w (ufs++c.args.map a.eval++ucs) (by simp[l1,l2,hl]) (fun i cc u h1 h2=>(hall i cc u h1 h2).1) hR1.world
    have hrun:(execOp a.eval o).run P w= .ok (.value cv) w:=by
     rw[Array.append_assoc] at q1
     simp[execOp,hop,resolve,hcallee,hfe,Deferred.ofValue,invoke,q1]
    unfold Oper.wp
    rw[hrun]
    exact fin q4 hR1 q3 (OwnAt.of_plain q2) hext1
   unfold ACallX at hC
   rw[if_pos hcal] at hC
   have hcall:=hC.frame hR1 (cargs:=ufs++c.args.map a.eval++ucs) (by simp[l1,l2,hl]) hall
   have hrun:(execOp a.eval o).run P w= .ok (.enter g (ufs++c.args.map a.eval++ucs)) w:=by
    simp[execOp,hop,resolve,hcallee,hfe,Deferred.ofValue,invoke,run_callFunc hcal]
   unfold Oper.wp
   rw[hrun]
   refine hcall.mono ?_
   rintro e w' ⟨v,cv,G',σ',rfl,hk,hv,ho,hR',hext⟩
   exact fin hk hR' hv ho (hext1.trans hext)
  ·exact step hK
 ·exact step hK
def yieldedA (ops:Array Oper) (A:Slots) (j:Nat):Option (Option Bool):=
 match (ops[j]?).bind (·.dst) with
 |some d=>match A d with
  | .lit (.bool b)=>some (some b)
  | .lit (.tuple _)=>some none
  |_=>none
 |none=>none
def estep (P:Program) (st:List Tmp) (ops:Array Oper) (i:Nat) (K:Slots→Store→Prop) (A:Slots) (σ:Store):Prop:=
 match ops[i]? with
 |none=>False
 |some o=>match o.guard with
  |none=>aoper P st o A σ fun v A' σ'=>K (aput A' o.dst v) σ'
  |some (j,want)=>match yieldedA ops A j with
   |some b=>if b=some want then aoper P st o A σ fun v A' σ'=>K (aput A' o.dst v) σ' else K (aput A o.dst (.lit undef)) σ
   |none=>False
def dstOk (n:Nat) (o:Oper):Bool:=match o.dst with|some d=>decide (d<n)|none=>true
theorem yielded_of {D:Nat→Prop} {n:Nat} {G:Ghost} {A:Slots} {σ:Store} {a:Act} {w:World} (h:Rel D n G A σ a w) {ops:Array Oper} (hn:∀o∈ops.toList,dstOk n o=true) {j:Nat} {b:Option Bool} (hy:yieldedA ops A j=some b):yielded ops a.tmps j=b:=by
 unfold yieldedA at hy
 cases hd:(ops[j]?).bind (·.dst) with
 |none=>simp[hd] at hy
 |some d=>
  rw[hd] at hy
  dsimp only at hy
  have hdn:d<n:=by
   cases ho:ops[j]? with
   |none=>simp[ho] at hd
   |some o=>
    simp[ho] at hd
    have:=hn o (by have:=Array.mem_of_getElem? ho;simpa using this)
    simpa[dstOk,hd] using this
  have hv:=h.val d
  have hsz:=h.size
  have hlt:d<a.tmps.size:=hsz▸hdn
  have e1:a.tmps.getD d undef=a.tmps[d]'hlt:=by simp[Array.getD,hlt]
  rw[e1] at hv
  have e2:a.tmps[d]?=some (a.tmps[d]'hlt):=by simp
  generalize a.tmps[d]'hlt=x at hv e2
  split at hy
  ·rename_i b' hA
   simp at hy;subst hy
   rw[hA] at hv
   cases hv
   unfold yielded
   rw[hd]
   simp[e2]
  ·rename_i us hA
   simp at hy;subst hy
   rw[hA] at hv
   cases hv
   unfold yielded
   rw[hd]
   simp[e2]
  ·simp at hy
theorem estep_sound {P:Program} {st:List Tmp} {D:Nat→Prop} {n:Nat} {G:Ghost} {A:Slots} {σ:Store} {a:Act} {w:World} (h:Rel D n G A σ a w) {ops:Array Oper} (hn:∀o∈ops.toList,dstOk n o=true) {i:Nat} {K:Slots→Store→Prop}
  (hK:estep P st ops i K A σ) (Q:Exit→Act→World→Prop):wpOp P ops Q i (lift D n G w K) a w:=by
 unfold estep at hK
 unfold wpOp
 cases ho:ops[i]? with
 |none=>rw[ho] at hK;exact hK.elim
 |some o=>
  rw[ho] at hK
  dsimp only at hK⊢
  have hd:∀d,o.dst=some d→d<n:=fun d hd=>by
   have:=hn o (by have:=Array.mem_of_getElem? ho;simpa using this)
   simpa[dstOk,hd] using this
  have run:(aoper P st o A σ fun v A' σ'=>K (aput A' o.dst v) σ')→o.wp P a w (lift D n G w K) Q:=fun hk=>by
   refine Oper.wp_mono (fun a' w' hl=> ?_) (aoper_sound h hk hd Q)
   obtain ⟨G',A',σ',⟨v,A0,h1,rfl⟩,h2,h3⟩:=hl
   exact ⟨G',_,σ',h1,h2,h3⟩
  split at hK
  ·rename_i hg
   have hw:Region.wanted o (yielded ops a.tmps)=true:=by simp[Region.wanted,hg]
   rw[if_pos hw]
   exact .inl (run hK)
  ·rename_i j want hg
   split at hK
   case h_2=>exact hK.elim
   rename_i b hy
   have hyy:=yielded_of h hn hy
   have hw:Region.wanted o (yielded ops a.tmps)=(b==some want):=by simp[Region.wanted,hg,hyy]
   split at hK
   ·rename_i hb
    rw[if_pos (by rw[hw];simp[hb])]
    exact .inl (run hK)
   ·rename_i hb
    rw[if_neg (by rw[hw];simp[hb])]
    obtain ⟨G2,h1,h2⟩:=h.aput (.lit undef) (OwnAt.of_plain (r:= .acc) rfl) hd
    exact ⟨G2,_,σ,hK,h1,h2⟩
theorem estep_mono {P:Program} {st:List Tmp} {ops:Array Oper} {i:Nat} {K K':Slots→Store→Prop} {A:Slots} {σ:Store} (h:estep P st ops i K A σ) (hk:∀A σ,K A σ→K' A σ):estep P st ops i K' A σ:=by
 unfold estep at*
 cases ho:ops[i]? with
 |none=>rw[ho] at h;exact h
 |some o=>
  rw[ho] at h
  dsimp only at*
  split at h
  ·exact aoper_mono h fun v A' σ'=>hk _ _
  ·split at h
   ·split at h
    ·rename_i hb;rw[if_pos hb];exact aoper_mono h fun v A' σ'=>hk _ _
    ·rename_i hb;rw[if_neg hb];exact hk _ _ h
   ·exact h
def aops (P:Program) (st:List Tmp) (ops:Array Oper) (Q:Slots→Store→Prop):List Nat→Slots→Store→Prop
 |[]=>Q
 |i::rest=>estep P st ops i (aops P st ops Q rest)
theorem aops_sound {P:Program} {st:List Tmp} {D:Nat→Prop} {n:Nat} {ops:Array Oper} (hn:∀o∈ops.toList,dstOk n o=true) {Q:Slots→Store→Prop} {Q':Exit→Act→World→Prop} :
  ∀(l:List Nat) {G0 G:Ghost} {w0:World} {A:Slots} {σ:Store} {a:Act} {w:World},(∀a' w',lift D n G0 w0 Q a' w'→Q' .normal a' w')→Ext D G0 w0 G w→Rel D n G A σ a w→aops P st ops Q l A σ→wpOps P ops Q' l a w
 |[],G0,G,w0,A,σ,a,w,hq,hext,hR,h=>hq a w ⟨G,A,σ,h,hR,hext⟩
 |i::rest,G0,G,w0,A,σ,a,w,hq,hext,hR,h=>by
  rw[wpOps_cons]
  refine wpOp_mono (fun a' w' hl=> ?_) (estep_sound hR hn h Q')
  obtain ⟨G',A',σ',h1,h2,h3⟩:=hl
  exact aops_sound hn rest hq (hext.trans h3) h2 h1
end Go.AL
namespace Go.AL
open Go Go.RowKit Classical
variable [GL]
set_option linter.unusedSectionVars false
def temps (xs:List Operand):List Tmp:=xs.filterMap fun| .tmp t=>some t|_=>none
theorem upd_comm (A:Slots) {i j:Nat} (h:i≠j) (x y:AV):upd (upd A i x) j y=upd (upd A j y) i x:=by
 funext k;simp only[upd]
 split
 ·rename_i h1;split
  ·rename_i h2;exact absurd (h2.symm.trans h1) h
  ·rfl
 ·rfl
theorem upd_other {A:Slots} {i j:Nat} (h:j≠i) (x:AV):upd A i x j=A j:=by simp[upd,h]
theorem evalA_upd {A:Slots} {d:Tmp} {x:AV} {y:Operand} (h:d∉temps [y]):evalA (upd A d x) y=evalA A y:=by
 cases y with
 |tmp t=>simp[temps] at h;exact upd_other (fun e=>h e.symm) x
 |_=>rfl
theorem evalA_congr {A B:Slots} {y:Operand} (h:∀t∈temps [y],A t=B t):evalA A y=evalA B y:=by
 cases y with
 |tmp t=>exact h t (by simp[temps])
 |_=>rfl
theorem temps_of {y:Operand} {xs:List Operand} (h:y∈xs) {t:Tmp} (ht:t∈temps [y]):t∈temps xs:=by
 cases y with
 |tmp u=>simp[temps] at ht;subst ht;simp only[temps,List.mem_filterMap];exact ⟨.tmp t,h,rfl⟩
 |_=>simp[temps] at ht
theorem takeA_frame {A:Slots} {d:Tmp} {x:AV} {y:Operand} {K:AV→Slots→Prop} (h:d∉temps [y]) (hK:takeA (upd A d x) y K):takeA A y fun v A'=>K v (upd A' d x):=by
 cases y with
 |tmp t=>
  have hne:t≠d:=fun e=>h (by simp[temps,e])
  simp only[takeA] at*
  rw[upd_other hne] at hK
  rwa[upd_comm A (Ne.symm hne)] at hK
 |_=>exact hK
theorem takeArgs_frame {P:Program} {d:Tmp} {x:AV} :∀(ys:List Operand) (ts:List TypeId) {A:Slots} {K:List AV→Slots→Prop},d∉temps ys→takeArgs P ys ts (upd A d x) K→takeArgs P ys ts A fun v A'=>K v (upd A' d x)
 |[],_,_,_,_,h=>h
 |y::ys,ts,A,K,hd,h=>by
  have h1:d∉temps [y]:=fun hm=>hd (temps_of (by simp) hm)
  have h2:d∉temps ys:=fun hm=>hd (by simp only[temps,List.mem_filterMap] at hm⊢;obtain ⟨z,hz,hz'⟩:=hm;exact ⟨z,by simp[hz],hz'⟩)
  exact takeA_mono (takeA_frame h1 h) fun _ _ h'=>takeArgs_frame ys ts.tail h2 h'
theorem fillTake_frame {P:Program} {t:TypeId} {d:Tmp} {x:AV} :∀(parts:List (Nat×Operand)) (cs:List AV) {A:Slots} {K:List AV→Slots→Prop},(∀p∈parts,d∉temps [p.2])→fillTake P t parts cs (upd A d x) K→fillTake P t parts cs A fun v A'=>K v (upd A' d x)
 |[],_,_,_,_,h=>h
 |(i,y)::rest,cs,A,K,hd,h=>by
  simp only[fillTake] at*
  split at h
  ·exact takeA_mono (takeA_frame (hd (i,y) (by simp)) h) fun v A' ⟨h1,h2,h3,h4⟩=>⟨h1,h2,h3,fillTake_frame rest _ (fun p hp=>hd p (by simp[hp])) h4⟩
  ·exact h
theorem apure_congr {P:Program} {o:Oper} {A B:Slots} {σ:Store} (h:∀t∈temps o.op.operands.toList,A t=B t):apure P o A σ=apure P o B σ:=by
 have ev:∀y∈o.op.operands.toList,evalA A y=evalA B y:=fun y hy=>evalA_congr fun t ht=>h t (temps_of hy ht)
 unfold apure
 cases hop:o.op with
 |move x=>rw[hop] at ev;have:=ev x (by simp[Op.operands]);cases x<;>simp_all
 |pick c a b=>
  rw[hop] at ev
  have e1:=ev c (by simp[Op.operands]);have e2:=ev a (by simp[Op.operands]);have e3:=ev b (by simp[Op.operands])
  dsimp only
  rw[e1]
  split
  ·split<;>simp_all
  ·rfl
 |makeFunc fn first captured=>
  rw[hop] at ev
  simp only[Op.operands,Array.toList_append,List.mem_append] at ev
  dsimp only
  congr 2
  ·exact List.map_congr_left fun y hy=>by rw[ev y (.inl hy)]
  ·exact List.map_congr_left fun y hy=>by rw[ev y (.inr hy)]
 |build t parts=>
  rw[hop] at ev
  have:nodeOf parts A=nodeOf parts B:=by
   unfold nodeOf
   exact List.map_congr_left fun p hp=>by rw[ev p.2 (by simp[Op.operands];exact ⟨p.1,by simpa using hp⟩)]
  dsimp only;rw[this]
 |slice t x lo hi mx=>
  rw[hop] at ev
  simp only[Op.operands,Array.toList_append] at ev
  have e1:=ev x (by simp)
  have e2:lo.map (evalA A)=lo.map (evalA B):=by cases lo with|none=>rfl|some y=>simp[ev y (by simp)]
  have e3:hi.map (evalA A)=hi.map (evalA B):=by cases hi with|none=>rfl|some y=>simp[ev y (by simp)]
  have e4:mx.map (evalA A)=mx.map (evalA B):=by cases mx with|none=>rfl|some y=>simp[ev y (by simp)]
  dsimp only;rw[e1,e2,e3,e4]
 |call c=>
  rw[hop] at ev
  simp only[Op.operands,Call.operands,Array.toList_append,List.mem_append] at ev
  dsimp only
  split
  ·rename_i x t hc hargs hts;rw[ev x (.inr (by rw[hargs];simp))]
  ·rename_i x y hc hargs;rw[ev x (.inr (by rw[hargs];simp)),ev y (.inr (by rw[hargs];simp))]
  ·rename_i x y hc hargs;rw[ev x (.inr (by rw[hargs];simp)),ev y (.inr (by rw[hargs];simp))]
  ·rfl
 |load t x=>rw[hop] at ev;dsimp only;rw[ev x (by simp[Op.operands])]
 |nilCheck x=>rw[hop] at ev;dsimp only;rw[ev x (by simp[Op.operands])]
 |binOp op t x y u=>rw[hop] at ev;dsimp only;rw[ev x (by simp[Op.operands]),ev y (by simp[Op.operands])]
 |unOp op t x=>rw[hop] at ev;dsimp only;rw[ev x (by simp[Op.operands])]
 |convert s t x=>rw[hop] at ev;dsimp only;rw[ev x (by simp[Op.operands])]
 |fieldAddr s x f=>rw[hop] at ev;dsimp only;rw[ev x (by simp[Op.operands])]
 |field s x f=>rw[hop] at ev;dsimp only;rw[ev x (by simp[Op.operands])]
 |indexAddr t x y=>rw[hop] at ev;dsimp only;rw[ev x (by simp[Op.operands]),ev y (by simp[Op.operands])]
 |index t x y=>rw[hop] at ev;dsimp only;rw[ev x (by simp[Op.operands]),ev y (by simp[Op.operands])]
 |makeInterface t x=>rw[hop] at ev;dsimp only;rw[ev x (by simp[Op.operands])]
 |_=>rfl
def Store.le (σ σ':Store):Prop:=∀o cs,σ o=some cs→σ' o=some cs
theorem aLoad_grow {P:Program} {σ σ':Store} (h:σ.le σ') {t:TypeId} {a v:AV} (hv:aLoad P σ t a=some v):aLoad P σ' t a=some v:=by
 unfold aLoad at*
 split at hv
 ·rename_i h1 h2
  split at hv
  ·split at hv
   ·rename_i hs;simp only[h _ _ hs];exact hv
   ·simp at hv
  ·exact hv
  ·simp at hv
 ·simp at hv
def isLoad (o:Oper):Bool:=match o.op with| .load .. =>true|_=>false
theorem apure_store {P:Program} {o:Oper} {A:Slots} {σ σ':Store} (h:isLoad o=false):apure P o A σ=apure P o A σ':=by
 unfold apure;unfold isLoad at h
 cases hop:o.op with
 |move x=>cases x<;>rfl
 |load t x=>simp[hop] at h
 |_=>rfl
theorem pst_load {P:Program} {st:List Tmp} {o:Oper} {A:Slots} {σ:Store} (h:isLoad o=false):apure P o A (pst st o σ)=apure P o A σ:=apure_store h
def isLoadS (st:List Tmp) (o:Oper):Bool:=isLoad o&& !fixed st o
theorem apure_grow {P:Program} {o:Oper} {A:Slots} {σ σ':Store} (h:σ.le σ') {v:AV} (hv:apure P o A σ=some v):apure P o A σ'=some v:=by
 cases hl:isLoad o with
 |false=>rwa[←apure_store (σ:=σ) hl]
 |true=>
  unfold isLoad at hl;unfold apure at*
  cases hop:o.op with
  |load t x=>
   rw[hop] at hv;dsimp only at*
   cases hx:aLoad P σ t (evalA A x) with
   |none=>simp[hx] at hv
   |some y=>rw[aLoad_grow h hx];simpa[hx] using hv
  |_=>simp[hop] at hl
def pureOp (st:List Tmp) (o:Oper):Bool:=
 match o.op with
 | .move (.tmp _)=> !steals st o
 | .load .. => !steals st o
 | .binOp _ _ _ y _=> !isNilConst y
 | .convert src dst _=> !(src==dst)&& !objs st o
 | .move _| .pick .. | .nilCheck _| .unOp .. | .fieldAddr .. | .field .. | .indexAddr .. | .index .. | .makeInterface .. | .makeFunc .. =>true
 | .slice _ _ _ hi mx=> !sliceTake st o hi mx
 | .build .. => !objs st o
 | .call c=>match c.callee with
  | .builtin .len=> !objs st o
  | .builtin .min| .builtin .max=>true
  |_=>false
 |_=>false
theorem pureOp_iff {P:Program} {st:List Tmp} {o:Oper} (h:pureOp st o=true) {A:Slots} {σ:Store} {K:AV→Slots→Store→Prop} :aoper P st o A σ K↔∃v,apure P o A (pst st o σ)=some v∧K v A σ:=by
 have gl:(match apure P o A (pst st o σ) with|some v=>K v A σ|none=>False)↔∃v,apure P o A (pst st o σ)=some v∧K v A σ:=by
  cases apure P o A (pst st o σ)<;>simp
 have go:isLoad o=false→((match apure P o A σ with|some v=>K v A σ|none=>False)↔∃v,apure P o A (pst st o σ)=some v∧K v A σ):=fun hl=>by
  rw[pst_load hl]
  cases apure P o A σ<;>simp
 unfold pureOp at h
 unfold aoper astep
 cases hop:o.op with
 |move x=>
  rw[hop] at h
  cases x with
  |tmp t=>
   simp only[Bool.not_eq_true',←Bool.not_eq_true] at h
   dsimp only
   rw[if_neg h]
   rw[pst_load (by simp[isLoad,hop])]
   simp[apure,hop,evalA]
  |_=>exact go (by simp[isLoad,hop])
 |load t x=>
  rw[hop] at h
  simp only[Bool.not_eq_true',←Bool.not_eq_true] at h
  dsimp only
  rw[if_neg h];exact gl
 |binOp op t x y t'=>
  rw[hop] at h
  simp only[Bool.not_eq_true',←Bool.not_eq_true] at h
  dsimp only
  rw[if_neg h];exact go (by simp[isLoad,hop])
 |convert src dst x=>
  rw[hop] at h
  dsimp only
  simp only[Bool.and_eq_true,Bool.not_eq_true'] at h
  rw[if_neg (by simpa using h.1),if_neg (by simp[h.2])];exact go (by simp[isLoad,hop])
 |slice t x lo hi mx=>
  rw[hop] at h
  simp only[Bool.not_eq_true',←Bool.not_eq_true] at h
  dsimp only
  rw[if_neg h];exact go (by simp[isLoad,hop])
 |build t parts=>
  rw[hop] at h
  simp only[Bool.not_eq_true',←Bool.not_eq_true] at h
  dsimp only
  rw[if_neg h];exact go (by simp[isLoad,hop])
 |call c=>
  rw[hop] at h
  dsimp only at*
  cases hc:c.callee with
  |builtin b=>
   rw[hc] at h
   cases b<;>first
    |(simp only[Bool.not_eq_true'] at h
      dsimp only
      split
      ·rename_i he _ _;cases he
      ·rename_i he _ _;cases he
      ·rw[if_neg (by rw[h];simp)];exact go (by simp[isLoad,hop])
      ·exact go (by simp[isLoad,hop]))
    |(simp at h;done)
    |exact go (by simp[isLoad,hop])
  |_=>rw[hc] at h;simp at h
 |_=>first
  |(simp[hop] at h;done)
  |exact go (by simp[isLoad,hop])
def growOp (st:List Tmp) (o:Oper):Bool:=
 pureOp st o||match o.op with
 | .build .. | .binOp .. | .convert .. | .move _| .alloc _| .box .. | .buildSlice .. | .makeSlice .. | .extract .. =>true
 | .assign _=> !frees st o
 | .call c=>match c.callee with
  | .builtin .copy=>false
  | .builtin _=> !objs st o
  |_=>false
 |_=>false
end Go.AL
