/-
 The abstract-state logic: a row that is an object may be taken as a list by value from now on.
-/
import Derived.Test.YtjnopnpkfhopbaaGreatDoorALPart6
import Derived.Lib.BytesEntry
import Derived.Laws.Externs
import Derived.OrdersIn
import Derived.RangeFuncIn
import Derived.RangeFuncLeaves
import Derived.RangeFuncRecord
set_option linter.unusedSimpArgs false
set_option linter.unusedVariables false
set_option maxRecDepth 8000
set_option maxHeartbeats 8000000
namespace Go.AL
open Go Classical
variable [GL]
set_option linter.unusedSectionVars false
theorem AllLe1.append:∀ {as bs cs ds:List AV},AllLe1 as bs→AllLe1 cs ds→AllLe1 (as++cs) (bs++ds)
 |[],[],_,_,_,h=>h
 |[],_::_,_,_,h,_=>h.elim
 |_::_,[],_,_,h,_=>h.elim
 |_::_,_::_,_,_,h,k=>⟨h.1,AllLe1.append h.2 k⟩
theorem AV.le_els {o:Bool} {sz:Nat} {vs vs':List AV} (hl:vs.length=vs'.length) (hw:∀v∈vs',v.cells.length=sz) (h:AllLe1 (flat vs) (flat vs')):(AV.list o sz vs).le (.list o sz vs'):=fun F v hv=>by
 obtain ⟨h1,h2⟩:=h.get
 cases hv with
 |nil=>
  have:vs'=[]:=List.eq_nil_of_length_eq_zero (by simpa using hl.symm)
  subst this
  exact ⟨.nil ..,fun _ _ _ _=>by cases o<;>simp[OwnAt,Own1]⟩
 |void=>
  have:vs'=[]:=List.eq_nil_of_length_eq_zero (by simpa using hl.symm)
  subst this
  exact ⟨.void ..,fun _ _ _ _=>by simp[OwnAt,Own1]⟩
 |list _ _ _ g off n cap us hn hc hw' hl' hF hv=>
  refine ⟨.list o sz vs' g off n cap us (by omega) hc hw (by omega) hF fun i c u hci hu=> ?_,fun G D r ho=> ?_⟩
  ·obtain ⟨a,ha,hle⟩:=h2 i c hci
   exact (hle F u (hv i a u ha hu)).1
  ·cases o<;>exact ho
def Shift (R:AV→Store→Prop) (v:AV) (σ:Store):Prop:=
 (∃v' σ',v.le v'∧Store.sub σ' σ∧R v' σ')∨∃(p:Nat) (cap sz:Nat) (vs rest:List AV),v= .lit (.slice (some ⟨p,0,none⟩) vs.length cap)∧σ p=some (flat vs++rest)∧(flat vs++rest).length=cap*sz∧cap≤maxLen∧vs.length≤cap∧
  (∀v∈vs,v.cells.length=sz)∧∃v',(AV.list true sz vs).le v'∧R v' (σ.del p)
theorem ACalls.shift {P:Program} {f:FuncId} {args:List AV} {σ:Store} {R R':AV→Store→Prop} (h:ACalls P f args σ R) (hs:∀v σ',R v σ'→Shift R' v σ'):ACalls P f args σ R':=by
 intro D G w cargs h1 h2 h3 h4
 refine (h D G w cargs h1 h2 h3 h4).mono ?_
 rintro e w' ⟨v,cv,G',σ',he,hR,hv,ho,hW,hext⟩
 rcases hs v σ' hR with ⟨v',σ'',hle,hsub,hR'⟩|⟨p,cap,sz,vs,rest,rfl,hp,hc,hm,hl,hw,v',hle,hR'⟩
 ·exact ⟨v',cv,G',σ'',he,hR',(hle _ _ hv).1,(hle _ _ hv).2 _ _ _ ho,hW.forget hsub,hext⟩
 ·cases hv
  obtain ⟨G2,q1,q2,q3,q4,_⟩:=hW.freezeObj hp hc hm hl hw .acc (by simp)
  exact ⟨_,_,G2,_,he,hR',(hle _ _ q2).1,(hle _ _ q2).2 _ _ _ q3,q1,hext.trans q4⟩
def ShiftAgg (R:AV→Store→Prop) (v:AV) (σ:Store):Prop:=
 (∃v' σ',v.le v'∧Store.sub σ' σ∧R v' σ')∨∃(p:Nat) (cap sz:Nat) (vs rest:List AV) (a b es:List AV),v= .tuple (.agg (a++ .lit (.slice (some ⟨p,0,none⟩) vs.length cap)::b)::es)∧(AV.tuple es).plain=true∧σ p=some (flat vs++rest)∧(flat vs++rest).length=cap*sz∧cap≤maxLen∧vs.length≤cap∧
  (∀v∈vs,v.cells.length=sz)∧∃vs',(AV.list true sz vs).le (.list true sz vs')∧R (.tuple (.agg (a++ .list false sz vs'::b)::es)) (σ.del p)
theorem ACalls.shiftAgg {P:Program} {f:FuncId} {args:List AV} {σ:Store} {R R':AV→Store→Prop} (h:ACalls P f args σ R) (hs:∀v σ',R v σ'→ShiftAgg R' v σ'):ACalls P f args σ R':=by
 intro D G w cargs h1 h2 h3 h4
 refine (h D G w cargs h1 h2 h3 h4).mono ?_
 rintro e w' ⟨v,cv,G',σ',he,hR,hv,ho,hW,hext⟩
 rcases hs v σ' hR with ⟨v',σ'',hle,hsub,hR'⟩|⟨p,cap,sz,vs,rest,a,b,es,rfl,hpl,hp,hc,hm,hl,hw,vs',hle,hR'⟩
 ·exact ⟨v',cv,G',σ'',he,hR',(hle _ _ hv).1,(hle _ _ hv).2 _ _ _ ho,hW.forget hsub,hext⟩
 ·obtain ⟨G2,q1,q2,q3,q4,_⟩:=hW.freezeObj hp hc hm hl hw (fun _=> .acc 0) (by simp)
  have q2':VR G2.F (.list false sz vs') (.slice (some ⟨p,0,none⟩) vs.length cap):=((hle _ _ q2).1).share
  refine ⟨_,cv,G2,_,he,hR', ?_,OwnAt.of_plain ?_,q1,hext.trans q4⟩
  ·have hv2:=VR.mono q4.frz hv
   cases hv2 with
   |tuple _ us hl1 hv1=>
    refine .tuple _ us (by simpa using hl1) fun i c u hc hu=> ?_
    cases i with
    |succ i=>exact hv1 (i+1) c u (by simpa using hc) hu
    |zero=>
     simp at hc;subst hc
     have:=hv1 0 _ u rfl hu
     cases this with
     |agg _ us2 hl2 ho2 hv3=>
      refine .agg _ us2 (by simpa using hl2) ho2 fun j c u hc hu=> ?_
      by_cases hj:j=a.length
      ·subst hj
       simp at hc;subst hc
       have:=hv3 a.length (.lit (.slice (some ⟨p,0,none⟩) vs.length cap)) u (by simp) hu
       cases this;exact q2'
      ·refine hv3 j c u ?_ hu
       rw[List.getElem?_append] at hc⊢
       split at hc
       ·rename_i hlt;rw[if_pos hlt];exact hc
       ·rename_i hlt;rw[if_neg hlt]
        rw[List.getElem?_cons] at hc⊢
        rw[if_neg (by omega)] at hc⊢
        exact hc
  ·simp only[AV.plain,List.all_cons,Bool.and_eq_true] at hpl⊢
   exact ⟨rfl,hpl⟩
theorem Rel.freeze {D:Nat→Prop} {n:Nat} {G:Ghost} {A:Slots} {σ:Store} {a:Act} {w:World} (h:Rel D n G A σ a w) {t p cap sz:Nat} {vs rest:List AV} (hA:A t= .lit (.slice (some ⟨p,0,none⟩) vs.length cap)) (hp:σ p=some (flat vs++rest))
  (hc:(flat vs++rest).length=cap*sz) (hm:cap≤maxLen) (hl:vs.length≤cap) (hw:∀v∈vs,v.cells.length=sz):∃G',Rel D n G' (upd A t (.list true sz vs)) (σ.del p) a w∧Ext D G w G' w:=by
 obtain ⟨G2,q1,q2,q3,q4,q5,q6⟩:=h.world.freezeObj hp hc hm hl hw (.slot t) (by simp)
 refine ⟨G2,⟨h.defers,h.size,fun i=> ?_,fun i=> ?_,q1,h.fresh⟩,q4⟩
 ·simp only[upd];split
  ·rename_i hi;subst hi
   have:=h.val i
   rw[hA] at this
   generalize a.tmps.getD i undef=x at this
   cases this;exact q2
  ·exact (h.val i).mono q4.frz
 ·simp only[upd];split
  ·rename_i hi;subst hi
   have:=h.val i
   rw[hA] at this
   generalize a.tmps.getD i undef=x at this
   cases this;exact q3
  ·exact (h.own i).re fun g m z j hd hg=>by
    have:g≠p:=fun e=>by subst e;rw[q6] at hg;cases hg
    rw[q5 g this];exact hg
theorem AWp.freeze {P:Program} {n:Nat} {c:Code} {Q:Exit→Slots→Store→Prop} {A:Slots} {σ:Store} {t p cap sz:Nat} {vs rest:List AV} (hA:A t= .lit (.slice (some ⟨p,0,none⟩) vs.length cap)) (hp:σ p=some (flat vs++rest))
  (hc:(flat vs++rest).length=cap*sz) (hm:cap≤maxLen) (hl:vs.length≤cap) (hw:∀v∈vs,v.cells.length=sz) (h:AWp P n c Q (upd A t (.list true sz vs)) (σ.del p)):AWp P n c Q A σ:=by
 intro D G a w hR
 obtain ⟨G',h1,h2⟩:=hR.freeze hA hp hc hm hl hw
 exact wp_mono (h D G' a w h1) fun e a' w' hl=>lift_trans h2 hl
def View (n:Nat) (Q:Slots→Store→Prop) (A:Slots) (σ:Store):Prop:=∀(D:Nat→Prop) (G:Ghost) (a:Act) (w:World),Rel D n G A σ a w→lift D n G w Q a w
theorem View.here {n:Nat} {Q:Slots→Store→Prop} {A:Slots} {σ:Store} (h:Q A σ):View n Q A σ:=fun _ _ _ _ hR=>lift_here hR h
theorem View.le {n:Nat} {Q:Slots→Store→Prop} {A B:Slots} {σ:Store} (hl:Slots.le A B) (h:View n Q B σ):View n Q A σ:=fun D G a w hR=>h D G a w (hR.le hl)
theorem View.leL {n:Nat} {Q:Slots→Store→Prop} {A:Slots} {l:List (Nat×AV)} {σ:Store} (hl:LeL A l) (h:View n Q (slotsL l) σ):View n Q A σ:=h.le (Slots.le_of hl)
theorem View.sub {n:Nat} {Q:Slots→Store→Prop} {A:Slots} {σ τ:Store} (hs:Store.sub τ σ) (h:View n Q A τ):View n Q A σ:=fun D G a w hR=>h D G a w (hR.sub hs)
theorem View.freeze {n:Nat} {Q:Slots→Store→Prop} {A:Slots} {σ:Store} {t p cap sz:Nat} {vs rest:List AV} (hA:A t= .lit (.slice (some ⟨p,0,none⟩) vs.length cap)) (hp:σ p=some (flat vs++rest))
  (hc:(flat vs++rest).length=cap*sz) (hm:cap≤maxLen) (hl:vs.length≤cap) (hw:∀v∈vs,v.cells.length=sz) (h:View n Q (upd A t (.list true sz vs)) (σ.del p)):View n Q A σ:=by
 intro D G a w hR
 obtain ⟨G',h1,h2⟩:=hR.freeze hA hp hc hm hl hw
 exact lift_trans h2 (h D G' a w h1)
theorem codeK.cut {P:Program} {n:Nat} {c:Code} {Q:Exit→Slots→Store→Prop} {A:Slots} {σ:Store} {t:Tag Q} (Q':Exit→Slots→Store→Prop) (h:codeK P n c Q' A σ) (next:∀e A' σ',Q' e A' σ'→View n (Q e) A' σ'):codeK P n c Q A σ t:=by
 intro D G a w hR
 refine wp_mono (h D G a w hR) fun e a' w' hl=> ?_
 obtain ⟨G',A',σ',h1,h2,h3⟩:=hl
 exact lift_trans h3 (next e A' σ' h1 D G' a' w' h2)
end Go.AL
namespace Go.AL
open Go
variable [GL]
set_option linter.unusedSectionVars false
def bytes1 (l:List UInt8):List AV:=l.map fun b=> .lit (.int .u8 (b.toNat:Int))
def escOf (c:UInt8) (new:List UInt8) (l:List UInt8):List UInt8:=l.flatMap fun b=>if b=c then new else [b]
end Go.AL
namespace Go.AL
open Go Go.RowKit Classical
variable [GL]
set_option linter.unusedSectionVars false
def Fw (ρ:Option Nat):Fence:= {Fence.wide with round:=ρ}
theorem callsIn_Fw {ρ:Option Nat} {n:Nat} {P:Program} {f:FuncId} {args:Array Value} {w:World} {R:Ending→World→Prop} :CallsIn (Fw ρ) n P f args w R↔Calls P f args w R:=
 callsIn_wide (n:=n)
theorem not_defer {P:Program} {st:List Tmp} {o:Oper} {A:Slots} {σ:Store} {K:AV→Slots→Store→Prop} (h:aoper P st o A σ K):∀c,o.op≠ .defer c:=by
 intro c hc
 unfold aoper at h
 rw[hc] at h
 unfold astep at h
 rw[hc] at h
 dsimp only at h
 unfold apure at h
 rw[hc] at h
 exact h
theorem wpIn_of_wp {P:Program} {o:Oper} (hd:∀c,o.op≠ .defer c) {ρ:Option Nat} {a:Act} {w:World} {next:Act→World→Prop} {Q':Exit→Act→World→Prop} (hn:∀a' w',next a' w'→a'.defers=[]) (h:o.wp P {a with defers:=[]} w next fun _ _ _=>False):
  o.wpIn (Fw ρ) 0 P a w (fun a' w'=>next {a' with defers:=[]} w'∧a'.defers=a.defers) Q':=by
 refine ⟨fun _ _=>trivial, ?_⟩
 rw[Oper.semAt_eq _ _ _ hd]
 unfold Oper.wp at h
 have he:({a with defers:=[]} :Act).eval=a.eval:=rfl
 rw[he] at h
 have hp:∀v,({a with defers:=[]} :Act).put o.dst v= {a.put o.dst v with defers:=[]} :=fun v=>by unfold Act.put;cases o.dst<;>rfl
 have hp2:∀v,(a.put o.dst v).defers=a.defers:=fun v=>by unfold Act.put;cases o.dst<;>rfl
 generalize (execOp a.eval o).run P w=r at*
 cases r with
 |ok x w'=>
  cases x with
  |value v=>rw[Oper.upon_value,hp] at h;exact ⟨h,hp2 v⟩
  |skip=>rw[Oper.upon_skip,hp] at h;exact ⟨h,hp2 _⟩
  |defer d=>
   exfalso
   rw[Oper.upon_defer] at h
   have:=hn _ _ h
   revert this
   unfold Act.put
   cases o.dst<;>simp
  |enter f args=>
   rw[Oper.upon_enter] at h
   refine ⟨fun hx=>by simp[Fw,Fence.wide] at hx,callsIn_Fw.2 (h.mono fun e w'' hh=> ?_)⟩
   cases e with
   |returned v=>dsimp only at hh⊢;rw[hp] at hh;exact ⟨hh,hp2 v⟩
   |panicked chain=>exact hh.elim
   |outgrown=>obtain ⟨_,_,hf⟩:=hh;exact hf.elim
  |row rw' args=>
   rw[Oper.upon_row] at h
   refine ⟨fun hx=>by simp[Fw,Fence.wide] at hx,fun c cs _=> ?_⟩
   obtain ⟨v,w'',q1,q2⟩:=h c cs
   rw[hp] at q1
   exact ⟨v,w'',⟨q1,hp2 v⟩,stepsIn_wide.2 q2⟩
  |_=>exact h.elim
 |halt x w'=>
  cases x with
  |panic v=>exact h.elim
  |_=>exact h.elim
abbrev bare (a:Act):Act:= {a with defers:=[]}
theorem lift_defers {D:Nat→Prop} {n:Nat} {G:Ghost} {w:World} {Q:Slots→Store→Prop} {a':Act} {w':World} (h:lift D n G w Q a' w'):a'.defers=[]:=by
 obtain ⟨_,_,_,_,h,_⟩:=h;exact h.defers
theorem estepIn_sound {P:Program} {st:List Tmp} {D:Nat→Prop} {n:Nat} {G:Ghost} {A:Slots} {σ:Store} {a:Act} {w:World} {ρ:Option Nat} (h:Rel D n G A σ (bare a) w) {ops:Array Oper} (hn:∀o∈ops.toList,dstOk n o=true) {i:Nat} {K:Slots→Store→Prop}
  (hK:estep P st ops i K A σ) (Q:Exit→Act→World→Prop):wpOpIn (Fw ρ) 0 P ops Q i (fun a' w'=>lift D n G w K (bare a') w'∧a'.defers=a.defers) a w:=by
 unfold estep at hK
 unfold wpOpIn
 cases ho:ops[i]? with
 |none=>rw[ho] at hK;exact hK.elim
 |some o=>
  rw[ho] at hK
  dsimp only at hK⊢
  have hd:∀d,o.dst=some d→d<n:=fun d hd=>by
   have:=hn o (by have:=Array.mem_of_getElem? ho;simpa using this)
   simpa[dstOk,hd] using this
  have run:(aoper P st o A σ fun v A' σ'=>K (aput A' o.dst v) σ')→o.wpIn (Fw ρ) 0 P a w (fun a' w'=>lift D n G w K (bare a') w'∧a'.defers=a.defers) Q:=fun hk=>by
   refine wpIn_of_wp (not_defer hk) (fun a' w' hl=>lift_defers hl) ?_
   refine Oper.wp_mono (fun a' w' hl=> ?_) (aoper_sound h hk hd _)
   obtain ⟨G',A',σ',⟨v,A0,h1,rfl⟩,h2,h3⟩:=hl
   exact ⟨G',_,σ',h1,h2,h3⟩
  split at hK
  ·rename_i hg
   have hw:Region.wanted o (yielded ops a.tmps)=true:=by simp[Region.wanted,hg]
   rw[if_pos hw]
   exact run hK
  ·rename_i j want hg
   split at hK
   case h_2=>exact hK.elim
   rename_i b hy
   have hyy:=yielded_of h hn hy
   have hw:Region.wanted o (yielded ops a.tmps)=(b==some want):=by simp only[Region.wanted,hg];have:yielded ops a.tmps j=b:=hyy;rw[this]
   split at hK
   ·rename_i hb
    rw[if_pos (by rw[hw];simp[hb])]
    exact run hK
   ·rename_i hb
    rw[if_neg (by rw[hw];simp[hb])]
    obtain ⟨G2,h1,h2⟩:=h.aput (.lit undef) (OwnAt.of_plain (r:= .acc) rfl) hd
    refine ⟨fun _ _=>trivial,⟨G2,_,σ,hK, ?_,h2⟩,by unfold Act.put;cases o.dst<;>rfl⟩
    have:bare (a.put o.dst undef)=(bare a).put o.dst undef:=by unfold Act.put;cases o.dst<;>rfl
    rw[this];exact h1
theorem aAnyIn_sound {P:Program} {st:List Tmp} {D:Nat→Prop} {n:Nat} {ops:Array Oper} {ρ:Option Nat} (hn:∀o∈ops.toList,dstOk n o=true) {Q:Slots→Store→Prop} {Q':Exit→Act→World→Prop} {ds:List Deferred} :
  ∀(fuel:Nat) (listed:Array Bool) {G0 G:Ghost} {w0:World} {A:Slots} {σ:Store} {a:Act} {w:World},(∀a' w',lift D n G0 w0 Q (bare a') w'→a'.defers=ds→Q' .normal a' w')→Ext D G0 w0 G w→Rel D n G A σ (bare a) w→a.defers=ds→aAny P st ops Q fuel listed A σ→
   wpAnyIn (Fw ρ) 0 P .any ops Q' fuel listed a w
 |0,listed,G0,G,w0,A,σ,a,w,hq,hext,hR,hds,h=>⟨h.1,hq a w ⟨G,A,σ,h.2,hR,hext⟩ hds⟩
 |fuel+1,listed,G0,G,w0,A,σ,a,w,hq,hext,hR,hds,h=>by
  refine ⟨fun hr=>hq a w ⟨G,A,σ,h.1 hr,hR,hext⟩ hds,fun i hi=> ?_⟩
  refine wpOpIn_mono (fun a' w' hl=> ?_) (estepIn_sound hR hn (h.2 i hi) Q')
  obtain ⟨⟨G',A',σ',h1,h2,h3⟩,h4⟩:=hl
  exact aAnyIn_sound hn fuel _ hq (hext.trans h3) h2 (h4.trans hds) h1
structure Env (X:Nat→Prop) where
 holds:Frz→World→Prop
 stable:∀ {F F':Frz} {w w':World},holds F w→(∀g i u,F g i=some u→F' g i=some u)→(∀k,X k→w'.heap[k]?=w.heap[k]?)→holds F' w'
structure Sit {X:Nat→Prop} (E:Env X) (D:Nat→Prop) (G:Ghost) (w:World):Prop where
 out:∀k,X k→¬D k
 loops:∀k,X k→∃r,w.heap[k]?=some (.loop r)
 env:E.holds G.F w
theorem Sit.step {X:Nat→Prop} {E:Env X} {D:Nat→Prop} {G G':Ghost} {w w':World} (h:Sit E D G w) (hx:Ext D G w G' w'):Sit E D G' w':=
 ⟨h.out,fun k hk=>by rw[(hx.block k (h.out k hk)).1];exact h.loops k hk,E.stable h.env hx.frz fun k hk=>(hx.block k (h.out k hk)).1⟩
theorem Sit.less {X:Nat→Prop} {E:Env X} {D D':Nat→Prop} {G:Ghost} {w:World} (h:Sit E D G w) (hd:∀k,D' k→D k):Sit E D' G w:=
 ⟨fun k hk h'=>h.out k hk (hd k h'),h.loops,h.env⟩
theorem Sit.more {X:Nat→Prop} {E:Env X} {D D':Nat→Prop} {G:Ghost} {w:World} (h:Sit E D' G w) (ho:∀k,X k→¬D k):Sit E D G w:=⟨ho,h.loops,h.env⟩
def OrX (D X:Nat→Prop):Nat→Prop:=fun k=>D k∨X k
theorem Ext.orX {D X:Nat→Prop} {G G':Ghost} {w w':World} (h:Ext D G w G' w'):Ext (OrX D X) G w G' w':=h.wide fun _ h=> .inl h
theorem OrX.mono {D D' X:Nat→Prop} (h:∀k,D' k→D k):∀k,OrX D' X k→OrX D X k:=fun _ hk=>hk.imp (h _) id
def ACallsY (P:Program) {X:Nat→Prop} (f:FuncId) (args:List AV) (σ:Store) (E:Env X) (R:AV→Store→Env X→Prop):Prop:=
 ∀(D:Nat→Prop) (G:Ghost) (w:World) (cargs:Array Value),args.length=cargs.size→
  (∀(i:Nat) (c:AV) (u:Value),args[i]?=some c→cargs[i]?=some u→VR G.F c u∧OwnAt G D (.arg i) c u)→WR D G σ w→(∀k,w.heap.size≤k→D k)→Sit E D G w→
  Calls P f cargs w fun e w'=>∃v cv G' σ' E',e= .returned cv∧R v σ' E'∧VR G'.F v cv∧OwnAt G' D .acc v cv∧WR D G' σ' w'∧Ext (OrX D X) G w G' w'∧Sit E' D G' w'
def AYields (P:Program) {X:Nat→Prop} (l:Nat) (args:List AV) (σ:Store) (E:Env X) (R:Bool→Store→Env X→Prop):Prop:=
 ∀(D:Nat→Prop) (G:Ghost) (w:World) (cargs:Array Value),args.length=cargs.size→
  (∀(i:Nat) (c:AV) (u:Value),args[i]?=some c→cargs[i]?=some u→VR G.F c u∧OwnAt G D (.arg i) c u)→WR D G σ w→(∀k,w.heap.size≤k→D k)→Sit E D G w→
  ∃f tmps assign body,(Instr.yield l cargs).run P w= .ok (.round l f tmps assign body) w∧
   RoundIn Fence.wide 0 P l f tmps assign body w fun e w'=>∃b G' σ' E',e= .returned (.bool b)∧R b σ' E'∧WR D G' σ' w'∧Ext (OrX D X) G w G' w'∧Sit E' D G' w'
theorem ACallsY.mono {P:Program} {X:Nat→Prop} {f:FuncId} {args:List AV} {σ:Store} {E:Env X} {R R':AV→Store→Env X→Prop} (h:ACallsY P f args σ E R) (hr:∀v σ' E',R v σ' E'→R' v σ' E'):ACallsY P f args σ E R':=
 fun D G w cargs h1 h2 h3 h4 h5=>(h D G w cargs h1 h2 h3 h4 h5).mono fun _ _ ⟨v,cv,G',σ',E',he,hR,rest⟩=>⟨v,cv,G',σ',E',he,hr _ _ _ hR,rest⟩
theorem AYields.mono {P:Program} {X:Nat→Prop} {l:Nat} {args:List AV} {σ:Store} {E:Env X} {R R':Bool→Store→Env X→Prop} (h:AYields P l args σ E R) (hr:∀v σ' E',R v σ' E'→R' v σ' E'):AYields P l args σ E R':=
 fun D G w cargs h1 h2 h3 h4 h5=>let ⟨f,t,a,b,q1,q2⟩:=h D G w cargs h1 h2 h3 h4 h5;⟨f,t,a,b,q1,q2.mono fun _ _ ⟨v,G',σ',E',he,hR,rest⟩=>⟨v,G',σ',E',he,hr _ _ _ hR,rest⟩⟩
def Store.over (τ' τ σ:Store):Store:=fun o=>match τ' o with
 |some cs=>some cs
 |none=>if (τ o).isSome then none else σ o
def Apart (τ' τ σ:Store):Prop:=∀o,τ o=none→σ o≠none→τ' o=none
end Go.AL
namespace Go.AL
open Go Go.RowKit Classical
variable [GL]
set_option linter.unusedSectionVars false
theorem AYields.le {P:Program} {X:Nat→Prop} {l:Nat} {args args':List AV} {σ:Store} {E:Env X} {R:Bool→Store→Env X→Prop} (hl:AllLe args args') (h:AYields P l args' σ E R):AYields P l args σ E R:=by
 intro D G w cargs h1 h2 h3 h4 h5
 obtain ⟨l1,l2⟩:=hl.get
 refine h D G w cargs (by omega) (fun i c u hc hu=> ?_) h3 h4 h5
 obtain ⟨a,ha,hle⟩:=l2 i c hc
 obtain ⟨q1,q2⟩:=h2 i a u ha hu
 exact ⟨(hle _ _ q1).1,(hle _ _ q1).2 _ _ _ q2⟩
theorem AYields.frame {P:Program} {X:Nat→Prop} {l:Nat} {args:List AV} {τ σ:Store} {E:Env X} {R:Bool→Store→Env X→Prop} (hy:AYields P l args τ E R) (hτ:Store.sub τ σ)
  {D:Nat→Prop} {n:Nat} {G:Ghost} {A:Slots} {a:Act} {w:World} (h:Rel D n G A σ a w) (hs:Sit E D G w)
  {cargs:Array Value} (hl:args.length=cargs.size) (hargs:∀(i:Nat) (c:AV) (u:Value),args[i]?=some c→cargs[i]?=some u→VR G.F c u∧OwnAt G D (.arg i) c u):
  ∃f tmps assign body,(Instr.yield l cargs).run P w= .ok (.round l f tmps assign body) w∧
   RoundIn Fence.wide 0 P l f tmps assign body w fun e w'=>∃b G' τ' E',e= .returned (.bool b)∧R b τ' E'∧Apart τ' τ σ∧Rel D n G' A (Store.over τ' τ σ) a w'∧Ext (OrX D X) G w G' w'∧Sit E' D G' w':=by
 let Dc:Nat→Prop:=fun k=>w.heap.size≤k∨(∃cs,τ k=some cs)∨(D k∧∃m z i j,G.S k=some (m,z, .arg i j))∨(D k∧∃(m z o j:Nat),τ o≠none∧G.S k=some (m,z, .obj o j))∨∃cs,τ (mkey k)=some cs
 have hW0:WR D G τ w:=h.world.forget hτ
 have hsub:∀k,Dc k→D k:=by
  rintro k (h1|⟨cs,h2⟩|h3|h4|⟨cs,h5⟩)
  ·exact h.fresh k h1
  ·exact (hW0.obj k cs h2).1
  ·exact h3.1
  ·exact h4.1
  ·exact (hW0.oth k cs h5).1
 have own1:∀ {π:Place} {c:AV} {u:Value},(∀g m z,D g→G.S g=some (m,z,π)→Dc g)→Own1 G D π c u→Own1 G Dc π c u:=by
  intro π c u hd ho
  unfold Own1 at*
  split at ho
  ·rcases ho with ho|⟨h1,z,h2,h3⟩
   ·exact .inl ho
   ·exact .inr ⟨hd _ _ _ h1 h2,z,h2,h3⟩
  ·trivial
 have hW:WR Dc G τ w:=by
  refine ⟨hW0.frz,hW0.own,fun o cs hcs=> ?_,hW0.laid,fun g cs hg=>⟨.inr (.inr (.inr (.inr ⟨cs,hg⟩))),(hW0.oth g cs hg).2⟩,hW0.vars⟩
  obtain ⟨h1,h2,h3,cur,e,h4,h5,h6⟩:=hW0.obj o cs hcs
  refine ⟨.inr (.inl ⟨cs,hcs⟩),h2,h3,cur,e,h4,h5,fun i c u hc hu=> ?_⟩
  obtain ⟨q1,q2,q3⟩:=h6 i c u hc hu
  exact ⟨q1,q2,own1 (fun g m z hd hg=> .inr (.inr (.inr (.inl ⟨hd,m,z,o,i,by rw[hcs];simp,hg⟩)))) q3⟩
 have hA:∀(i:Nat) (c:AV) (u:Value),args[i]?=some c→cargs[i]?=some u→VR G.F c u∧OwnAt G Dc (.arg i) c u:=by
  intro i c u hci hui
  obtain ⟨q1,q2⟩:=hargs i c u hci hui
  refine ⟨q1, ?_⟩
  have hd:∀j g m z,D g→G.S g=some (m,z, .arg i j)→Dc g:=fun j g m z hd hg=> .inr (.inr (.inl ⟨hd,m,z,i,j,hg⟩))
  unfold OwnAt at q2⊢
  split at q2
  ·exact fun j c u hc hu=>own1 (hd j) (q2 j c u hc hu)
  ·exact fun j c u hc hu=>own1 (hd j) (q2 j c u hc hu)
  ·exact own1 (hd 0) q2
 obtain ⟨f,tmps,assign,body,hrun,hround⟩:=hy Dc G w cargs hl hA hW (fun k hk=> .inl hk) (hs.less hsub)
 refine ⟨f,tmps,assign,body,hrun,hround.mono ?_⟩
 rintro e w' ⟨b,G',τ',E',he,hR,hW',hext,hs'⟩
 have cellsX:∀k,X k→∀c e' z,w.heap[k]?≠some (.cells c e' z):=fun k hk c e' z hc=>by
  obtain ⟨r,hr⟩:=hs.loops k hk
  rw[hr] at hc;cases hc
 have lone':∀(o:Nat) cs,σ o=some cs→τ o=none→¬OrX Dc X o:=by
  intro o cs hcs ht
  obtain ⟨h1,h2,h3,cur,e',h4,_⟩:=h.world.obj o cs hcs
  rintro ((q1|⟨cs',q2⟩|⟨_,m,z,i,j,q3⟩|⟨_,m,z,o',j,_,q3⟩|⟨cs',q5⟩)|q4)
  ·have:=(Array.getElem?_eq_some_iff.1 h4).1;omega
  ·rw[ht] at q2;cases q2
  ·rw[h2] at q3;cases q3
  ·rw[h2] at q3;cases q3
  ·rcases hτ (mkey o) with ht'|ht'
   ·rw[ht'] at q5;cases q5
   ·rw[ht'] at q5;exact h.world.oth_obj q5 hcs
  ·exact cellsX o q4 _ _ _ h4
 have loneM:∀(g:Nat) cs,σ (mkey g)=some cs→τ (mkey g)=none→¬OrX Dc X g:=by
  intro g cs hcs ht
  obtain ⟨_,hid,ob,h4,h5⟩:=h.world.oth g cs hcs
  rintro ((q1|⟨cs',q2⟩|⟨_,m,z,i,j,q3⟩|⟨_,m,z,o',j,_,q3⟩|⟨cs',q5⟩)|q4)
  ·have:=(Array.getElem?_eq_some_iff.1 h4).1;omega
  ·rcases hτ g with ht'|ht'
   ·rw[ht'] at q2;cases q2
   ·rw[ht',hid.1] at q2;cases q2
  ·exact h.world.oth_own hcs q3
  ·exact h.world.oth_own hcs q3
  ·rw[ht] at q5;cases q5
  ·obtain ⟨r,hr⟩:=hs.loops g q4
   rw[hr] at h4;obtain rfl:=Option.some.inj h4
   exact h5.no_loop
 have hnotS:∀g m z π,G.S g=some (m,z,π)→(∀i j,π≠ .arg i j)→(∀(o j:Nat),π= .obj o j→τ o=none)→¬OrX Dc X g:=by
  intro g m z π hg h1 h2
  obtain ⟨q1,⟨c,e',⟨_,q2,_⟩,_⟩,_⟩:=h.world.own g m z _ hg
  rintro ((r1|⟨cs,r2⟩|⟨_,m',z',i',j',r3⟩|⟨_,m',z',i',j',r4,r3⟩|⟨cs,r6⟩)|r5)
  ·have:=(Array.getElem?_eq_some_iff.1 q2).1;omega
  ·rcases hτ g with ht|ht
   ·rw[ht] at r2;cases r2
   ·rw[ht,q1] at r2;cases r2
  ·rw[hg] at r3;simp at r3;exact h1 _ _ r3.2.2
  ·rw[hg] at r3;simp at r3;exact r4 (h2 _ _ r3.2.2)
  ·exact hW0.oth_own r6 hg
  ·exact cellsX g r5 _ _ _ q2
 have hap:Apart τ' τ σ:=by
  intro o ht hσ
  cases hσo:σ o with
  |none=>exact (hσ hσo).elim
  |some cs=>
   cases hτ':τ' o with
   |none=>rfl
   |some cs'=>cases o with
    |ofNat o=>exact (lone' o cs hσo ht (.inl (hW'.obj o cs' hτ').1)).elim
    |negSucc g=>exact (loneM g cs hσo ht (.inl (hW'.oth g cs' hτ').1)).elim
 have hWD:=hW'.wide hsub
 have hWo:WR D G' (Store.over τ' τ σ) w':=by
  refine ⟨hWD.frz,fun g m z π hg=> ?_,fun o cs hcs=> ?_,hWD.laid,fun g cs hg=> ?_,fun g cs hg=>let ⟨q,e⟩:=hWD.vars g cs hg;let ⟨q',_⟩:=h.world.vars g cs hg;⟨⟨by simp[Store.over,q.1,q'.1],by simp[Store.over,q.2.1,q'.2.1],q.2.2⟩,e⟩⟩
  ·obtain ⟨q1,q2⟩:=hWD.own g m z π hg
   refine ⟨?_,q2⟩
   simp only[Store.over,q1]
   split
   ·rfl
   ·rename_i ht
    cases hσg:σ g with
    |none=>rfl
    |some cs=>
     have hb:=hext.block g (lone' g cs hσg (by simpa using ht))
     obtain ⟨_,p2,_⟩:=h.world.obj g cs hσg
     rw[hb.2.1,p2] at hg;cases hg
  ·simp only[Store.over] at hcs
   cases ht':τ' o with
   |some cs'=>rw[ht'] at hcs;cases hcs;exact hWD.obj o cs ht'
   |none=>
    rw[ht'] at hcs
    dsimp only at hcs
    split at hcs
    ·cases hcs
    ·rename_i ht
     have ht:τ o=none:=by simpa using ht
     obtain ⟨p1,p2,p3,cur,e',p4,p5,p6⟩:=h.world.obj o cs hcs
     obtain ⟨b1,b2,b3⟩:=hext.block o (lone' o cs hcs ht)
     refine ⟨p1,b2.trans p2,fun i=>by rw[b3];exact p3 i,cur,e',b1.trans p4,p5,fun i c u hc hu=> ?_⟩
     obtain ⟨r1,r2,r3⟩:=p6 i c u hc hu
     refine ⟨r1,r2.mono hext.frz,r3.same fun g m z hd hg=> ?_⟩
     rw[(hext.block g (hnotS g m z _ hg (by simp) (fun o' j' he'=>by cases he';exact ht))).2.1];exact hg
  ·simp only[Store.over] at hg
   cases ht':τ' (mkey g) with
   |some cs'=>
    rw[ht'] at hg;cases hg
    obtain ⟨p1,pi,p3⟩:=hWD.oth g cs ht'
    refine ⟨p1,⟨?_,pi.2⟩,p3⟩
    simp only[Store.over,pi.1]
    split
    ·rfl
    ·rename_i ht
     cases hσg:σ g with
     |none=>rfl
     |some cs0=>exact (lone' g cs0 hσg (by simpa using ht) (.inl (hW'.oth g cs ht').1)).elim
   |none=>
    rw[ht'] at hg
    dsimp only at hg
    split at hg
    ·cases hg
    ·rename_i ht
     have ht:τ (mkey g)=none:=by simpa using ht
     obtain ⟨p1,pi,ob,p2,p3⟩:=h.world.oth g cs hg
     obtain ⟨b1,b2,b3⟩:=hext.block g (loneM g cs hg ht)
     refine ⟨p1,⟨?_,b2.trans pi.2.1,fun i=>by rw[b3];exact pi.2.2 i⟩,ob,b1.trans p2,p3.mono hext.frz⟩
     simp only[Store.over]
     cases hτ':τ' (g:Int) with
     |some cs'=>exact (loneM g cs hg ht (.inl (hW'.obj g cs' hτ').1)).elim
     |none=>
      dsimp only
      split
      ·rfl
      ·exact pi.1
 refine ⟨b,G',τ',E',he,hR,hap, ?_,hext.wide (OrX.mono hsub),hs'.more hs.out⟩
 exact h.step hext.frz (fun g m z i j hd hg=>by rw[(hext.block g (hnotS g m z _ hg (by simp) (by simp))).2.1];exact hg) hWo hext.size
end Go.AL
namespace Go.AL
open Go Go.RowKit Classical
variable [GL]
set_option linter.unusedSectionVars false
def bOn (o:Oper):List Nat:=o.after.toList.filterMap fun ed=>if Region.binds .any ed=true then some ed.on else none
def edg (ops:Array Oper) (i:Nat):List Nat:=match ops[i]? with|some o=>bOn o|none=>[]
def lowOk (ops:Array Oper):Bool:=(List.range ops.size).all fun i=>(edg ops i).all fun j=>decide (j<i)
def ancs (ops:Array Oper) (t:Nat):List Nat:=(List.range t).reverse.foldl (fun S i=>if S.any (fun j=>(edg ops j).contains i)=true then i::S else S) [t]
def tailOk (ops:Array Oper) (m:Nat):Bool:=lowOk ops&&(List.range ops.size).all fun t=>decide (t<m)||(List.range t).all fun i=>(ancs ops t).contains i
def isVarCall (o:Oper):Bool:=match o.op with
 | .call c=>match c.callee with
  | .value (.tmp _)=>true
  |_=>false
 |_=>false
def tailAt (ops:Array Oper):Option Nat:=match ops.toList.findIdx? isVarCall with
 |some m=>if tailOk ops m=true then some m else none
 |none=>none
theorem mem_bOn {o:Oper} {j:Nat} :j∈bOn o↔∃ed∈o.after.toList,Region.binds .any ed=true∧ed.on=j:=by
 simp only[bOn,List.mem_filterMap]
 constructor
 ·rintro ⟨ed,h1,h2⟩
  split at h2
  ·rename_i hb;exact ⟨ed,h1,hb,by simpa using h2⟩
  ·cases h2
 ·rintro ⟨ed,h1,h2,rfl⟩
  exact ⟨ed,h1,by rw[if_pos h2]⟩
theorem ready_iff {ops:Array Oper} {listed:Array Bool} {i:Nat} :i∈Region.ready .any ops listed↔i<ops.size∧listed.getD i true=false∧∀j∈edg ops i,listed.getD j false=true:=by
 rw[mem_ready]
 constructor
 ·rintro ⟨o,ho,h1,h2⟩
  refine ⟨(Array.getElem?_eq_some_iff.1 ho).1,h1,fun j hj=> ?_⟩
  simp only[edg,ho] at hj
  obtain ⟨ed,h3,h4,rfl⟩:=mem_bOn.1 hj
  exact h2 ed h3 h4
 ·rintro ⟨hi,h1,h2⟩
  have ho:ops[i]?=some ops[i]:=by simp[hi]
  refine ⟨_,ho,h1,fun ed hed hb=>h2 _ ?_⟩
  simp only[edg,ho]
  exact mem_bOn.2 ⟨ed,hed,hb,rfl⟩
theorem low_lt {ops:Array Oper} (h:lowOk ops=true) {i j:Nat} (hj:j∈edg ops i):j<i∧i<ops.size:=by
 have hi:i<ops.size:=by
  rcases Nat.lt_or_ge i ops.size with h'|h'
  ·exact h'
  ·have:ops[i]?=none:=by simp;omega
   simp[edg,this] at hj
 have:=List.all_eq_true.1 h i (by simp[hi])
 have:=List.all_eq_true.1 this j hj
 exact ⟨by simpa using this,hi⟩
def Closed (ops:Array Oper) (listed:Array Bool):Prop:=∀i,listed.getD i false=true→∀j∈edg ops i,listed.getD j false=true
theorem getD_bound {l:Array Bool} {i:Nat} (hi:i<l.size):l.getD i true=l.getD i false:=by
 simp[Array.getD_eq_getD_getElem?,hi]
theorem ancs_listed {ops:Array Oper} {listed:Array Bool} (hc:Closed ops listed) {t:Nat} (ht:∀j∈edg ops t,listed.getD j false=true):∀x∈ancs ops t,x=t∨listed.getD x false=true:=by
 unfold ancs
 have key:∀(l:List Nat) (S:List Nat),(∀x∈S,x=t∨listed.getD x false=true)→∀x∈l.foldl (fun S i=>if S.any (fun j=>(edg ops j).contains i)=true then i::S else S) S,x=t∨listed.getD x false=true:=by
  intro l
  induction l with
  |nil=>intro S h;exact h
  |cons i l ih=>
   intro S h
   rw[List.foldl_cons]
   refine ih _ fun x hx=> ?_
   split at hx
   ·rename_i hany
    rcases List.mem_cons.1 hx with rfl|hx
    ·obtain ⟨j,hj,hji⟩:=List.any_eq_true.1 hany
     have hji:x∈edg ops j:=by simpa using hji
     rcases h j hj with rfl|hl
     ·exact .inr (ht x hji)
     ·exact .inr (hc j hl x hji)
    ·exact h x hx
   ·exact h x hx
 exact key _ _ (by simp)
theorem tail_all {ops:Array Oper} {m:Nat} (h:tailOk ops m=true) {listed:Array Bool} (hc:Closed ops listed) {t:Nat} (hmt:m≤t) (hr:t∈Region.ready .any ops listed):∀i,i<t→listed.getD i false=true:=by
 obtain ⟨h1,h2,h3⟩:=ready_iff.1 hr
 simp only[tailOk,Bool.and_eq_true,List.all_eq_true,List.mem_range,Bool.or_eq_true,decide_eq_true_eq] at h
 intro i hi
 have:=(h.2 t h1).resolve_left (by omega) i hi
 rcases ancs_listed hc h3 i (by simpa using this) with rfl|hl
 ·omega
 ·exact hl
theorem closed_set {ops:Array Oper} {listed:Array Bool} (hc:Closed ops listed) {i:Nat} (hi:i∈Region.ready .any ops listed):Closed ops (listed.setIfInBounds i true):=by
 intro k hk j hj
 obtain ⟨h1,h2,h3⟩:=ready_iff.1 hi
 rw[getD_setB] at hk⊢
 split at hk
 ·rename_i hh;obtain ⟨rfl,_⟩:=hh
  split
  ·rfl
  ·exact h3 j hj
 ·split
  ·rfl
  ·exact hc k hk j hj
theorem all_of_none {ops:Array Oper} {m:Nat} (hlow:lowOk ops=true) (hm:m≤ops.size) {listed:Array Bool} (hs:listed.size=ops.size) (h:∀i,i<m→i∉Region.ready .any ops listed):∀i,i<m→listed.getD i false=true:=by
 intro i
 induction i using Nat.strongRecOn with
 |_ i ih=>
  intro hi
  by_cases hl:listed.getD i false=true
  ·exact hl
  ·refine absurd (ready_iff.2 ⟨by omega, ?_,fun j hj=> ?_⟩) (h i hi)
   ·rw[getD_bound (by omega)];simpa using hl
   ·have:=(low_lt hlow hj).1;exact ih j this (by omega)
structure Half (ops:Array Oper) (m:Nat) (listed listed':Array Bool):Prop where
 s1:listed.size=ops.size
 s2:listed'.size=m
 same:∀i,i<m→listed'[i]?=listed[i]?
theorem edg_pre {ops:Array Oper} {m i:Nat} (hi:i<m):edg (ops.extract 0 m) i=edg ops i:=by
 unfold edg
 rw[Array.getElem?_extract]
 by_cases h:i<ops.size
 ·rw[if_pos (by omega)];simp
 ·rw[if_neg (by omega)]
  have:ops[i]?=none:=by simp;omega
  rw[this]
theorem ready_pre {ops:Array Oper} {m:Nat} (hlow:lowOk ops=true) (hm:m≤ops.size) {listed listed':Array Bool} (h:Half ops m listed listed') {i:Nat} (hi:i<m):i∈Region.ready .any (ops.extract 0 m) listed'↔i∈Region.ready .any ops listed:=by
 have e:∀j,j<m→∀d,listed'.getD j d=listed.getD j d:=fun j hj d=>by
  simp only[Array.getD_eq_getD_getElem?,h.same j hj]
 rw[ready_iff,ready_iff,edg_pre hi,e i hi]
 constructor
 ·rintro ⟨_,h2,h3⟩
  exact ⟨by omega,h2,fun j hj=>by rw[←e j (by have:=(low_lt hlow hj).1;omega)];exact h3 j hj⟩
 ·rintro ⟨_,h2,h3⟩
  exact ⟨by simp;omega,h2,fun j hj=>by rw[e j (by have:=(low_lt hlow hj).1;omega)];exact h3 j hj⟩
theorem half_set {ops:Array Oper} {m:Nat} {listed listed':Array Bool} (h:Half ops m listed listed') (i:Nat):Half ops m (listed.setIfInBounds i true) (listed'.setIfInBounds i true):=by
 refine ⟨by simp[h.s1],by simp[h.s2],fun j hj=> ?_⟩
 rw[Array.getElem?_setIfInBounds,Array.getElem?_setIfInBounds,h.same j hj]
 by_cases hij:i=j
 ·subst hij
  have h1:i<listed'.size:=by rw[h.s2];exact hj
  have h2:i<listed.size:=by
   have:=h.same i hj
   rw[Array.getElem?_eq_getElem h1] at this
   exact (Array.getElem?_eq_some_iff.1 this.symm).1
  simp[h1,h2]
 ·simp[hij]
theorem yieldedA_pre {ops:Array Oper} {m j:Nat} {A:Slots} {b:Option Bool} (h:yieldedA (ops.extract 0 m) A j=some b):yieldedA ops A j=some b:=by
 by_cases hj:j<min m ops.size-0
 ·have e:(ops.extract 0 m)[j]?=ops[j]?:=by rw[Array.getElem?_extract,if_pos hj];simp
  unfold yieldedA at*
  rw[e] at h;exact h
 ·have e:(ops.extract 0 m)[j]?=none:=by rw[Array.getElem?_extract,if_neg hj]
  unfold yieldedA at h
  rw[e] at h;simp at h
theorem estep_pre {P:Program} {st:List Tmp} {ops:Array Oper} {m i:Nat} {K:Slots→Store→Prop} {A:Slots} {σ:Store} (h:estep P st (ops.extract 0 m) i K A σ):estep P st ops i K A σ:=by
 unfold estep at*
 rw[Array.getElem?_extract] at h
 by_cases hi:i<min m ops.size-0
 ·rw[if_pos hi] at h
  simp only[Nat.zero_add] at h
  cases ho:ops[i]? with
  |none=>rw[ho] at h;exact h
  |some o=>
   rw[ho] at h
   dsimp only at*
   split at h
   ·exact h
   ·rename_i j want _
    split at h
    ·rename_i b hy
     rw[yieldedA_pre hy];exact h
    ·exact h.elim
 ·rw[if_neg hi] at h;exact h.elim
end Go.AL
namespace Go.AL
open Go Go.RowKit Classical
variable [GL]
set_option linter.unusedSectionVars false
def InRound (ρ:Option Nat) (D X:Nat→Prop) (w:World):Prop:=∀l,ρ=some l→¬D l∧¬X l∧∃r,w.heap[l]?=some (.loop r)
structure RelY {X:Nat→Prop} (ρ:Option Nat) (D:Nat→Prop) (n:Nat) (G:Ghost) (A:Slots) (σ:Store) (a:Act) (w:World) (E:Env X):Prop where
 rel:Rel D n G A σ (bare a) w
 sit:Sit E D G w
 round:InRound ρ D X w
def mark (K:Nat):Deferred:= {target:= .collected K,args:= #[]}
def Marks (D D' X:Nat→Prop) (new:List Nat) (w:World):Prop:=∀K∈new,D K∧¬D' K∧¬X K∧w.heap[K]?=some (.deferred (some []))
def liftY {X:Nat→Prop} (ρ:Option Nat) (D:Nat→Prop) (n:Nat) (G:Ghost) (w:World) (ds:List Deferred) (Q:Env X→Slots→Store→Prop) (a':Act) (w':World):Prop:=
 ∃D' G' A' σ' E' new,(∀k,D' k→D k)∧Q E' A' σ'∧RelY ρ D' n G' A' σ' a' w' E'∧Ext (OrX D X) G w G' w'∧a'.defers=new.map mark++ds∧new.Nodup∧Marks D D' X new w'
theorem InRound.step {ρ:Option Nat} {D X:Nat→Prop} {G G':Ghost} {w w':World} (h:InRound ρ D X w) (hx:Ext (OrX D X) G w G' w'):InRound ρ D X w':=fun l hl=>by
 obtain ⟨h1,h2,h3⟩:=h l hl
 exact ⟨h1,h2,by rw[(hx.block l (fun hh=>hh.elim h1 h2)).1];exact h3⟩
theorem InRound.less {ρ:Option Nat} {D D' X:Nat→Prop} {w:World} (h:InRound ρ D X w) (hd:∀k,D' k→D k):InRound ρ D' X w:=fun l hl=>let ⟨h1,h2,h3⟩:=h l hl;⟨fun h'=>h1 (hd l h'),h2,h3⟩
section
variable {X:Nat→Prop} {ρ:Option Nat} {D D1:Nat→Prop} {n:Nat} {G G1:Ghost} {A:Slots} {σ:Store} {a a':Act} {w w1 w':World} {E:Env X} {ds ds1:List Deferred} {Q Q':Env X→Slots→Store→Prop}
theorem liftY_mono (h:liftY ρ D n G w ds Q a' w') (hq:∀E A σ,Q E A σ→Q' E A σ):liftY ρ D n G w ds Q' a' w':=by
 obtain ⟨D',G',A',σ',E',new,h1,h2,h3⟩:=h
 exact ⟨D',G',A',σ',E',new,h1,hq _ _ _ h2,h3⟩
theorem liftY_here (h:RelY ρ D n G A σ a w E) (hq:Q E A σ):liftY ρ D n G w a.defers Q a w:=
 ⟨D,G,A,σ,E,[],fun _ h=>h,hq,h,Ext.refl ..,by simp, .nil,fun _ h=>by simp at h⟩
theorem liftY_trans {new1:List Nat} (hd:∀k,D1 k→D k) (hx:Ext (OrX D X) G w G1 w1) (h1:ds1=new1.map mark++ds) (hn:new1.Nodup) (hm:Marks D D1 X new1 w1) (k:liftY ρ D1 n G1 w1 ds1 Q a' w'):liftY ρ D n G w ds Q a' w':=by
 obtain ⟨D',G',A',σ',E',new,k1,k2,k3,k4,k5,k6,k7⟩:=k
 refine ⟨D',G',A',σ',E',new++new1,fun q hq=>hd q (k1 q hq),k2,k3,hx.trans (k4.wide (OrX.mono hd)),by rw[k5,h1];simp, ?_,fun K hK=> ?_⟩
 ·rw[List.nodup_append]
  refine ⟨k6,hn,fun x hx y hy=> ?_⟩
  rintro rfl
  exact (hm x hy).2.1 (k7 x hx).1
 ·rcases List.mem_append.1 hK with hK|hK
  ·obtain ⟨q1,q2⟩:=k7 K hK
   exact ⟨hd K q1,q2⟩
  ·obtain ⟨q1,q2,q3,q4⟩:=hm K hK
   exact ⟨q1,fun h=>q2 (k1 K h),q3,by rw[(k4.block K (fun hh=>hh.elim q2 q3)).1];exact q4⟩
theorem liftY_of_lift {K:Slots→Store→Prop} (hR:RelY ρ D n G A σ a w E) (h:lift D n G w K (bare a') w') (hd:a'.defers=a.defers) (hq:∀A σ,K A σ→Q E A σ):liftY ρ D n G w a.defers Q a' w':=by
 obtain ⟨G',A',σ',h1,h2,h3⟩:=h
 exact ⟨D,G',A',σ',E,[],fun _ h=>h,hq _ _ h1,⟨h2,hR.sit.step h3,hR.round.step h3.orX⟩,h3.orX,by simp[hd], .nil,fun _ h=>by simp at h⟩
theorem RelY.le {B:Slots} (h:RelY ρ D n G A σ a w E) (hl:Slots.le A B):RelY ρ D n G B σ a w E:=⟨h.rel.le hl,h.sit,h.round⟩
theorem RelY.sub {τ:Store} (h:RelY ρ D n G A σ a w E) (hs:Store.sub τ σ):RelY ρ D n G A τ a w E:=⟨h.rel.sub hs,h.sit,h.round⟩
end
def AWpY (P:Program) {X:Nat→Prop} (n:Nat) (c:Code) (Q:Exit→Env X→Slots→Store→Prop) (E:Env X) (A:Slots) (σ:Store):Prop:=
 ∀(ρ:Option Nat) (D:Nat→Prop) (G:Ghost) (a:Act) (w:World),RelY ρ D n G A σ a w E→c.wpIn (Fw ρ) 0 P (fun e a' w'=>liftY ρ D n G w a.defers (Q e) a' w') a w
section
variable {P:Program} {X:Nat→Prop} {n:Nat} {Q Q':Exit→Env X→Slots→Store→Prop} {E:Env X} {A B:Slots} {σ τ:Store} {c x y:Code}
theorem AWpY.mono (h:AWpY P n c Q E A σ) (hq:∀e E A σ,Q e E A σ→Q' e E A σ):AWpY P n c Q' E A σ:=
 fun ρ D G a w hR=>wpIn_mono (h ρ D G a w hR) fun e _ _ hl=>liftY_mono hl (hq e)
theorem AWpY.le (h:AWpY P n c Q E B σ) (hl:Slots.le A B):AWpY P n c Q E A σ:=fun ρ D G a w hR=>h ρ D G a w (hR.le hl)
theorem AWpY.sub (h:AWpY P n c Q E A τ) (hs:Store.sub τ σ):AWpY P n c Q E A σ:=fun ρ D G a w hR=>h ρ D G a w (hR.sub hs)
def thenY (next:Env X→Slots→Store→Prop) (Q:Exit→Env X→Slots→Store→Prop):Exit→Env X→Slots→Store→Prop
 | .normal=>next
 |e=>Q e
def blockY (id:Nat) (Q:Exit→Env X→Slots→Store→Prop):Exit→Env X→Slots→Store→Prop
 | .exit id'=>if id'=id then Q .normal else Q (.exit id')
 |e=>Q e
theorem AWpY.seq (h:AWpY P n x (thenY (AWpY P n y Q) Q) E A σ):AWpY P n (.seq x y) Q E A σ:=by
 intro ρ D G a w hR
 refine wpIn_seq (wpIn_mono (h ρ D G a w hR) fun e a' w' hl=> ?_)
 cases e with
 |normal=>
  obtain ⟨D',G',A',σ',E',new,h1,h2,h3,h4,h5,h6,h7⟩:=hl
  exact wpIn_mono (h2 ρ D' G' a' w' h3) fun e a'' w'' hl=>liftY_trans h1 h4 h5 h6 h7 hl
 |_=>exact hl
theorem AWpY.block {id:Nat} (h:AWpY P n c (blockY id Q) E A σ):AWpY P n (.block id c) Q E A σ:=by
 intro ρ D G a w hR
 refine wpIn_block (wpIn_mono (h ρ D G a w hR) fun e a' w' hl=> ?_)
 cases e with
 |exit id'=>
  simp only[Exit.inBlock,blockY] at*
  split at hl
  ·rename_i hh;rw[if_pos hh];exact hl
  ·rename_i hh;rw[if_neg hh];exact hl
 |_=>exact hl
theorem AWpY.cond {c:Operand} {b:Bool} (hc:evalA A c= .lit (.bool b)) (h:AWpY P n (if b then x else y) Q E A σ):AWpY P n (.cond c x y) Q E A σ:=by
 intro ρ D G a w hR
 have hv:=hR.rel.eval c
 rw[hc] at hv
 have he:(bare a).eval=a.eval:=rfl
 rw[he] at hv
 generalize hcv:a.eval c=cv at hv
 cases hv
 exact wpIn_cond hcv (h ρ D G a w hR)
theorem least (p:Nat→Prop) (h:∃m,p m):∃m,p m∧∀k,p k→m≤k:=by
 obtain ⟨m,hm⟩:=h
 induction m using Nat.strongRecOn with
 |_ m ih=>
  by_cases hk:∃k,k<m∧p k
  ·obtain ⟨k,k1,k2⟩:=hk;exact ih k k1 k2
  ·exact ⟨m,hm,fun k hp=>Nat.le_of_not_lt fun hlt=>hk ⟨k,hlt,hp⟩⟩
theorem AWpY.loop {S:Type} (Inv:S→Prop) (sl:S→Slots) (so:S→Store) (en:S→Env X→Prop) (μ:S→Nat) (x0:S) (h0:Inv x0) (hA:Slots.le A (sl x0)) (hσ:Store.sub (so x0) σ) (hE:en x0 E)
  (round:∀x E,Inv x→en x E→AWpY P n c (thenY (fun E' A' σ'=>∃y,Inv y∧μ y<μ x∧Slots.le A' (sl y)∧Store.sub (so y) σ'∧en y E') Q) E (sl x) (so x)):AWpY P n (.loop c) Q E A σ:=by
 refine AWpY.le (B:=sl x0) ?_ hA
 refine AWpY.sub ?_ hσ
 intro ρ D G a w hR
 let S1:Nat→Act→World→Prop:=fun m a' w'=>∃x,Inv x∧μ x=m∧liftY ρ D n G w a.defers (fun E' A' σ'=>en x E'∧A'=sl x∧σ'=so x) a' w'
 let I:Act→World→Prop:=fun a' w'=>∃m,S1 m a' w'
 let μ':Act→World→Nat:=fun a' w'=>if h:∃m,S1 m a' w' then Classical.choose (least _ h) else 0
 refine wpIn_loop I μ' ⟨μ x0,x0,h0,rfl,liftY_here hR ⟨hE,rfl,rfl⟩⟩ ?_
 intro a1 w1 hI
 have hfind:=(Classical.choose_spec (least _ hI)).1
 have hμ:μ' a1 w1=Classical.choose (least _ hI):=by simp only[μ'];rw[dif_pos hI]
 obtain ⟨x,hx,hm,D1,G1,A1,σ1,E1,new,h1,⟨h2,rfl,rfl⟩,h3,h4,h5,h6,h7⟩:=hfind
 refine wpIn_mono (round x E1 hx h2 ρ D1 G1 a1 w1 h3) fun e a2 w2 hl=> ?_
 have hl:=liftY_trans h1 h4 h5 h6 h7 hl
 cases e with
 |normal=>
  obtain ⟨D2,G2,A2,σ2,E2,new2,k1,⟨y,y1,y2,y3,y4,y5⟩,k3,k4⟩:=hl
  have hS:S1 (μ y) a2 w2:=⟨y,y1,rfl,D2,G2,_,_,E2,new2,k1,⟨y5,rfl,rfl⟩,(k3.le y3).sub y4,k4⟩
  refine ⟨⟨_,hS⟩, ?_⟩
  have hI2:∃m,S1 m a2 w2:=⟨_,hS⟩
  have hμ2:μ' a2 w2=Classical.choose (least _ hI2):=by simp only[μ'];rw[dif_pos hI2]
  rw[hμ,hμ2]
  exact Nat.lt_of_le_of_lt ((Classical.choose_spec (least _ hI2)).2 _ hS) (hm▸y2)
 |_=>exact hl
def yieldL:AV→Option Nat
 | .func (.yield l) [] []=>some l
 |_=>none
def yieldK (P:Program) {X:Nat→Prop} (l:Nat) (args:List AV) (σ:Store) (E:Env X) (R:Bool→Store→Env X→Prop) (_t:Tag R:= .mk):Prop:=
 ∃τ,Store.sub τ σ∧AYields P l args τ E fun b τ' E'=>Apart τ' τ σ→R b (Store.over τ' τ σ) E'
def yieldOf (A:Slots) (o:Oper):Option (Nat×Call):=
 match o.op with
 | .call c=>match c.callee with
  | .value f=>(yieldL (evalA A f)).map fun l=>(l,c)
  |_=>none
 |_=>none
def runY (P:Program) (st:List Tmp) (o:Oper) (K:Env X→Slots→Store→Prop) (E:Env X) (A:Slots) (σ:Store):Prop:=
 match yieldOf A o with
 |some (l,c)=>takeArgs P c.args.toList c.argTypes.toList A fun vs A'=>yieldK P l vs σ E fun b σ' E'=>K E' (aput A' o.dst (.lit (.bool b))) σ'
 |none=>aoper P st o A σ fun v A' σ'=>K E (aput A' o.dst v) σ'
def estepY (P:Program) (st:List Tmp) (ops:Array Oper) (i:Nat) (K:Env X→Slots→Store→Prop) (E:Env X) (A:Slots) (σ:Store):Prop:=
 match ops[i]? with
 |none=>False
 |some o=>match o.guard with
  |none=>runY P st o K E A σ
  |some (j,want)=>match yieldedA ops A j with
   |some b=>if b=some want then runY P st o K E A σ else K E (aput A o.dst (.lit undef)) σ
   |none=>False
def aopsYAt (P:Program) (st:List Tmp) (ops:Array Oper) (Q:Env X→Slots→Store→Prop):List Oper→Nat→Env X→Slots→Store→Prop
 |[],_=>Q
 |_::rest,i=>estepY P st ops i (aopsYAt P st ops Q rest (i+1))
def planY (P:Program) (st:List Tmp) (ops:Array Oper) {X:Nat→Prop} (Q:Exit→Env X→Slots→Store→Prop) (p:Plan) (E:Env X) (A:Slots) (σ:Store):Prop:=
 match p with
 | .step k q=>if 1000000≤k then aplan P st (ops.extract 0 (k-1000000)) (fun A' σ'=>aopsYAt P st ops (Q .normal) (ops.toList.drop (k-1000000)) (k-1000000) E A' σ') q A σ else aplan P st ops (Q .normal E) (.step k q) A σ
 |p=>aplan P st ops (Q .normal E) p A σ
def Plan.tail (m:Nat) (p:Plan):Plan:= .step (1000000+m) p
def codeOkY (st:List Tmp) (plans:List (Nat×Plan)) (n:Nat):Code→Bool
 | .seq x y=>codeOkY st plans n x&&codeOkY st plans n y
 | .cond _ x y=>codeOkY st plans n x&&codeOkY st plans n y
 | .block _ c=>codeOkY st plans n c
 | .loop c=>codeOkY st plans n c
 | .region id ops draw=>ops.toList.all (dstOk n)&&(!draw||match plans.lookup id with
   |some p=>(match p with
    | .step k q=>if 1000000≤k then tailOk ops (k-1000000)&&decide (k-1000000<ops.size)&&planOk st (ops.extract 0 (k-1000000)) (k-1000000) (Array.replicate (k-1000000) false) q else planOk st ops ops.size (Array.replicate ops.size false) (.step k q)
    |p=>planOk st ops ops.size (Array.replicate ops.size false) p)
   |none=>false)
 |_=>true
def awpY (P:Program) (st:List Tmp) (plans:List (Nat×Plan)) (n:Nat):Code→(Exit→Env X→Slots→Store→Prop)→Env X→Slots→Store→Prop
 | .skip,Q=>Q .normal
 | .label _,Q=>Q .normal
 | .seq x y,Q=>awpY P st plans n x (thenY (awpY P st plans n y Q) Q)
 | .cond c x y,Q=>fun E A σ=>match evalA A c with
  | .lit (.bool b)=>if b=true then awpY P st plans n x Q E A σ else awpY P st plans n y Q E A σ
  |_=>False
 | .block id c,Q=>awpY P st plans n c (blockY id Q)
 | .exit id,Q=>Q (.exit id)
 | .goto l,Q=>Q (.goto l)
 | .ret,Q=>Q .ret
 | .region id ops draw,Q=>fun E A σ=>if draw=true then (match plans.lookup id with|some p=>planY P st ops Q p E A σ|none=>False) else aopsYAt P st ops (Q .normal) ops.toList 0 E A σ
 |c,Q=>AWpY P n c Q
end
theorem run_yieldOf {P:Program} {A:Slots} {o:Oper} {l:Nat} {c:Call} (hy:yieldOf A o=some (l,c)) {D:Nat→Prop} {n:Nat} {G:Ghost} {σ:Store} {a:Act} {w:World} (h:Rel D n G A σ (bare a) w) {ρ:Option Nat} {f:FuncId} {tmps:Array Value} {assign body:Code}
  (hr:(Instr.yield l (c.args.map a.eval)).run P w= .ok (.round l f tmps assign body) w):(o.semAt ρ a.eval).run P w= .ok (.round l f tmps assign body) w:=by
 have hop:o.op= .call c:=by
  unfold yieldOf at hy
  split at hy
  ·rename_i c' hc
   split at hy
   ·simp at hy;obtain ⟨_,_,_,rfl⟩:=hy;exact hc
   ·cases hy
  ·cases hy
 unfold yieldOf at hy
 rw[hop] at hy
 dsimp only at hy
 split at hy
 case h_2=>cases hy
 rename_i f' hf'
 simp at hy
 have hv:=h.eval f'
 have he:(bare a).eval=a.eval:=rfl
 rw[he] at hv
 unfold yieldL at hy
 split at hy
 case h_2=>cases hy
 rename_i l' hl'
 simp at hy;subst hy
 rw[hl'] at hv
 generalize hfe:a.eval f'=fv at hv
 cases hv with|func _ _ _ ufs ucs l1 l2 v1 v2=> ?_
 have e1:ufs= #[]:=by simpa using l1.symm
 have e2:ucs= #[]:=by simpa using l2.symm
 subst e1 e2
 rw[Oper.semAt_eq _ _ _ (by rw[hop];intro c hc;cases hc)]
 simp[execOp,hop,resolve,hf',hfe,Deferred.ofValue,invoke,hr]
theorem estepY_sound {P:Program} {X:Nat→Prop} {st:List Tmp} {ρ:Option Nat} {D:Nat→Prop} {n:Nat} {G:Ghost} {A:Slots} {σ:Store} {a:Act} {w:World} {E:Env X} (h:RelY ρ D n G A σ a w E) {ops:Array Oper} (hn:∀o∈ops.toList,dstOk n o=true) {i:Nat}
  {K:Env X→Slots→Store→Prop} (hK:estepY P st ops i K E A σ) (Q:Exit→Act→World→Prop):wpOpIn (Fw ρ) 0 P ops Q i (fun a' w'=>liftY ρ D n G w a.defers K a' w') a w:=by
 cases ho:ops[i]? with
 |none=>unfold estepY at hK;rw[ho] at hK;exact hK.elim
 |some o=>
  have old:estep P st ops i (K E) A σ→wpOpIn (Fw ρ) 0 P ops Q i (fun a' w'=>liftY ρ D n G w a.defers K a' w') a w:=fun hh=>
   wpOpIn_mono (fun a' w' hl=>liftY_of_lift h hl.1 hl.2 fun _ _ hk=>hk) (estepIn_sound h.rel hn hh Q)
  cases hy:yieldOf A o with
  |none=>
   refine old ?_
   unfold estepY at hK
   unfold estep
   rw[ho] at hK⊢
   dsimp only at hK⊢
   unfold runY at hK
   rw[hy] at hK
   exact hK
  |some q=>
   obtain ⟨l,c⟩:=q
   have run:runY P st o K E A σ→o.wpIn (Fw ρ) 0 P a w (fun a' w'=>liftY ρ D n G w a.defers K a' w') Q:=by
    intro hr
    unfold runY at hr
    rw[hy] at hr
    dsimp only at hr
    obtain ⟨vs,A',G1,⟨τ,hτ,hyl⟩,hR1,hl,hvs,hext1,hF1,_⟩:=takeArgs_sound _ _ 0 h.rel hr
    have hs1:Sit E D G1 w:=h.sit.step hext1
    obtain ⟨f,tmps,assign,body,hrun,hround⟩:=hyl.frame hτ hR1 hs1 (cargs:=c.args.map a.eval) (by simp[hl]) (fun i cc u hc hu=>by
     rw[Array.getElem?_map] at hu
     cases hx:c.args[i]? with
     |none=>simp[hx] at hu
     |some x=>
      simp[hx] at hu;subst hu
      have:=hvs i cc x hc (by simpa using hx)
      have he:(bare a).eval=a.eval:=rfl
      rw[he] at this
      simpa using this)
    refine ⟨fun _ _=>trivial, ?_⟩
    rw[show (Fw ρ).round=ρ from rfl,run_yieldOf hy h.rel hrun]
    refine ⟨fun hx=>by simp[Fw,Fence.wide] at hx,hround.1,fun c cs _=> ?_⟩
    obtain ⟨e,w',⟨b,G',τ',E',rfl,hb,hap,hR',hext,hs'⟩,hst⟩:=hround.2 c cs (room_wide _)
    refine ⟨.returned (.bool b),w', ?_,hst⟩
    have hd:∀d,o.dst=some d→d<n:=fun d hd=>by
     have:=hn o (by have:=Array.mem_of_getElem? ho;simpa using this)
     simpa[dstOk,hd] using this
    obtain ⟨G2,q1,q2⟩:=hR'.aput (.lit (.bool b)) (OwnAt.of_plain (r:= .acc) rfl) hd
    have e1:bare (a.put o.dst (.bool b))=(bare a).put o.dst (.bool b):=by unfold Act.put;cases o.dst<;>rfl
    have e2:(a.put o.dst (.bool b)).defers=a.defers:=by unfold Act.put;cases o.dst<;>rfl
    have hx:Ext (OrX D X) G w G2 w':=(hext1.orX.trans hext).trans q2.orX
    exact ⟨D,G2,_,_,E',[],fun _ h=>h,hb hap,⟨e1▸q1,hs'.step q2,h.round.step hx⟩,hx,by simp[e2], .nil,fun _ h=>by simp at h⟩
   unfold estepY at hK
   rw[ho] at hK
   dsimp only at hK
   unfold wpOpIn
   rw[ho]
   dsimp only
   split at hK
   ·rename_i hg
    have hw:Region.wanted o (yielded ops a.tmps)=true:=by simp[Region.wanted,hg]
    rw[if_pos hw]
    exact run hK
   ·rename_i j want hg
    split at hK
    case h_2=>exact hK.elim
    rename_i b hyd
    have hyy:=yielded_of h.rel hn hyd
    have hw:Region.wanted o (yielded ops a.tmps)=(b==some want):=by simp only[Region.wanted,hg];have:yielded ops a.tmps j=b:=hyy;rw[this]
    split at hK
    ·rename_i hb
     rw[if_pos (by rw[hw];simp[hb])]
     exact run hK
    ·rename_i hb
     have hd:∀d,o.dst=some d→d<n:=fun d hd=>by
      have:=hn o (by have:=Array.mem_of_getElem? ho;simpa using this)
      simpa[dstOk,hd] using this
     rw[if_neg (by rw[hw];simp[hb])]
     obtain ⟨G2,h1,h2⟩:=h.rel.aput (.lit undef) (OwnAt.of_plain (r:= .acc) rfl) hd
     refine ⟨fun _ _=>trivial,liftY_of_lift (K:=K E) h ⟨G2,_,σ,hK, ?_,h2⟩ (by unfold Act.put;cases o.dst<;>rfl) fun _ _ hk=>hk⟩
     have:bare (a.put o.dst undef)=(bare a).put o.dst undef:=by unfold Act.put;cases o.dst<;>rfl
     rw[this];exact h1
theorem aopsY_sound {P:Program} {X:Nat→Prop} {st:List Tmp} {n:Nat} {ops:Array Oper} (hn:∀o∈ops.toList,dstOk n o=true) {ρ:Option Nat} {Q:Env X→Slots→Store→Prop} {Q':Exit→Act→World→Prop} :
  ∀(l:List Oper) (i:Nat) {D:Nat→Prop} {G:Ghost} {A:Slots} {σ:Store} {a:Act} {w:World} {E:Env X},(∀a' w',liftY ρ D n G w a.defers Q a' w'→Q' .normal a' w')→RelY ρ D n G A σ a w E→aopsYAt P st ops Q l i E A σ→
   wpOpsIn (Fw ρ) 0 P ops Q' (List.range' i l.length) a w
 |[],i,D,G,A,σ,a,w,E,hq,hR,h=>hq a w (liftY_here hR h)
 |_::rest,i,D,G,A,σ,a,w,E,hq,hR,h=>by
  rw[List.length_cons,List.range'_succ,wpOpsIn_cons]
  refine wpOpIn_mono (fun a' w' hl=> ?_) (estepY_sound hR hn h Q')
  obtain ⟨D',G',A',σ',E',new,h1,h2,h3,h4,h5,h6,h7⟩:=hl
  exact aopsY_sound hn rest (i+1) (fun a'' w'' hl=>hq a'' w'' (liftY_trans h1 h4 h5 h6 h7 hl)) h3 h2
theorem tailY_sound {P:Program} {X:Nat→Prop} {st:List Tmp} {n:Nat} {ops:Array Oper} (hn:∀o∈ops.toList,dstOk n o=true) {m:Nat} (htl:tailOk ops m=true) {ρ:Option Nat} {Q:Env X→Slots→Store→Prop} {Q':Exit→Act→World→Prop} :
  ∀(fuel t:Nat) (listed:Array Bool) {D:Nat→Prop} {G:Ghost} {A:Slots} {σ:Store} {a:Act} {w:World} {E:Env X},ops.size-t≤fuel→m≤t→t≤ops.size→listed.size=ops.size→Closed ops listed→(∀i,i<t→listed.getD i false=true)→(∀i,t≤i→i<ops.size→listed.getD i true=false)→
   (∀a' w',liftY ρ D n G w a.defers Q a' w'→Q' .normal a' w')→RelY ρ D n G A σ a w E→aopsYAt P st ops Q (ops.toList.drop t) t E A σ→wpAnyIn (Fw ρ) 0 P .any ops Q' fuel listed a w:=by
 intro fuel
 induction fuel with
 |zero=>
  intro t listed D G A σ a w E hf hmt hts hs hc hlt hun hq hR h
  obtain rfl:t=ops.size:=by omega
  rw[List.drop_of_length_le (by simp)] at h
  refine ⟨List.eq_nil_iff_forall_not_mem.2 fun i hi=> ?_,hq a w (liftY_here hR h)⟩
  obtain ⟨h1,h2,_⟩:=ready_iff.1 hi
  rw[getD_bound (by omega),hlt i h1] at h2;cases h2
 |succ fuel ih=>
  intro t listed D G A σ a w E hf hmt hts hs hc hlt hun hq hR h
  by_cases hte:t=ops.size
  ·subst hte
   rw[List.drop_of_length_le (by simp)] at h
   have hnil:Region.ready .any ops listed=[]:=List.eq_nil_iff_forall_not_mem.2 fun i hi=>by
    obtain ⟨h1,h2,_⟩:=ready_iff.1 hi
    rw[getD_bound (by omega),hlt i h1] at h2;cases h2
   exact ⟨fun _=>hq a w (liftY_here hR h),fun i hi=>by rw[hnil] at hi;cases hi⟩
  ·have htl':t<ops.size:=by omega
   have hrt:t∈Region.ready .any ops listed:=ready_iff.2 ⟨htl',hun t (Nat.le_refl _) htl',fun j hj=>hlt j (low_lt (by simp only[tailOk,Bool.and_eq_true] at htl;exact htl.1) hj).1⟩
   refine ⟨fun hr=>(by rw[hr] at hrt;cases hrt),fun i hi=> ?_⟩
   have hit:i=t:=by
    obtain ⟨h1,h2,_⟩:=ready_iff.1 hi
    rcases Nat.lt_trichotomy i t with hlt'|rfl|hgt
    ·rw[getD_bound (by omega),hlt i hlt'] at h2;cases h2
    ·rfl
    ·have:=tail_all htl hc (by omega) hi t hgt
     have h3:=hun t (Nat.le_refl _) htl'
     rw[getD_bound (by omega),this] at h3;cases h3
   subst hit
   have hdr:ops.toList.drop i=ops[i]::ops.toList.drop (i+1):=by rw[List.drop_eq_getElem_cons (by simpa using htl')];simp
   rw[hdr] at h
   refine wpOpIn_mono (fun a' w' hl=> ?_) (estepY_sound hR hn h Q')
   obtain ⟨D',G',A',σ',E',new,h1,h2,h3,h4,h5,h6,h7⟩:=hl
   refine ih (i+1) _ (by omega) (by omega) (by omega) (by simpa using hs) (closed_set hc hi) (fun j hj=> ?_) (fun j hj hjs=> ?_) (fun a'' w'' hl=>hq a'' w'' (liftY_trans h1 h4 h5 h6 h7 hl)) h3 h2
   ·rw[getD_setB]
    split
    ·rfl
    ·rename_i hne
     refine hlt j ?_
     rcases Nat.lt_or_ge j i with h'|h'
     ·exact h'
     ·exact absurd ⟨by omega,by omega⟩ hne
   ·rw[getD_setB,if_neg (by omega)];exact hun j (by omega) hjs
theorem aAnyTail_sound {P:Program} {X:Nat→Prop} {st:List Tmp} {n:Nat} {ops:Array Oper} (hn:∀o∈ops.toList,dstOk n o=true) {m:Nat} (htl:tailOk ops m=true) (hlow:lowOk ops=true) (hm:m≤ops.size) {ρ:Option Nat} {Q:Env X→Slots→Store→Prop} {Q':Exit→Act→World→Prop} :
  ∀(f:Nat) (listed listed':Array Bool) {D:Nat→Prop} {G:Ghost} {A:Slots} {σ:Store} {a:Act} {w:World} {E:Env X},Half ops m listed listed'→Closed ops listed→(∀i,m≤i→i<ops.size→listed.getD i true=false)→
   (∀a' w',liftY ρ D n G w a.defers Q a' w'→Q' .normal a' w')→RelY ρ D n G A σ a w E→aAny P st (ops.extract 0 m) (fun A' σ'=>aopsYAt P st ops Q (ops.toList.drop m) m E A' σ') f listed' A σ→wpAnyIn (Fw ρ) 0 P .any ops Q' (f+(ops.size-m)) listed a w:=by
 have fin:∀(f:Nat) (listed listed':Array Bool) {D:Nat→Prop} {G:Ghost} {A:Slots} {σ:Store} {a:Act} {w:World} {E:Env X},Half ops m listed listed'→Closed ops listed→(∀i,m≤i→i<ops.size→listed.getD i true=false)→
   (∀a' w',liftY ρ D n G w a.defers Q a' w'→Q' .normal a' w')→RelY ρ D n G A σ a w E→Region.ready .any (ops.extract 0 m) listed'=[]→aopsYAt P st ops Q (ops.toList.drop m) m E A σ→wpAnyIn (Fw ρ) 0 P .any ops Q' (f+(ops.size-m)) listed a w:=by
  intro f listed listed' D G A σ a w E hh hc hun hq hR hr h
  refine tailY_sound hn htl _ m listed (by omega) (Nat.le_refl _) hm hh.s1 hc (all_of_none hlow hm hh.s1 fun i hi hin=> ?_) hun hq hR h
  have:=(ready_pre hlow hm hh hi).2 hin
  rw[hr] at this;cases this
 intro f
 induction f with
 |zero=>
  intro listed listed' D G A σ a w E hh hc hun hq hR h
  exact fin 0 listed listed' hh hc hun hq hR h.1 h.2
 |succ f ih=>
  intro listed listed' D G A σ a w E hh hc hun hq hR h
  by_cases hr:Region.ready .any (ops.extract 0 m) listed'=[]
  ·exact fin (f+1) listed listed' hh hc hun hq hR hr (h.1 hr)
  ·obtain ⟨k,hk⟩:=List.exists_mem_of_ne_nil _ hr
   have hkm:k<m:=by
    have:=(ready_iff.1 hk).1
    simp at this;omega
   have hk':=(ready_pre hlow hm hh hkm).1 hk
   rw[show f+1+(ops.size-m)=(f+(ops.size-m))+1 by omega]
   refine ⟨fun hn=>(by rw[hn] at hk';cases hk'),fun i hi=> ?_⟩
   have him:i<m:=by
    rcases Nat.lt_or_ge i m with h'|h'
    ·exact h'
    ·have h1:=tail_all htl hc h' hi k (by omega)
     have h2:=(ready_iff.1 hk').2.1
     rw[getD_bound (by rw[hh.s1];omega),h1] at h2;cases h2
   have hst:=estep_pre (h.2 i ((ready_pre hlow hm hh him).2 hi))
   refine wpOpIn_mono (fun a' w' hl=> ?_) (estepIn_sound hR.rel hn hst Q')
   obtain ⟨⟨G',A',σ',h1,h2,h3⟩,h4⟩:=hl
   have hR2:RelY ρ D n G' A' σ' a' w' E:=⟨h2,hR.sit.step h3,hR.round.step h3.orX⟩
   refine ih _ _ (half_set hh i) (closed_set hc hi) (fun j hj hjs=> ?_) (fun a'' w'' hl=>hq a'' w'' ?_) hR2 h1
   ·rw[getD_setB,if_neg (by omega)];exact hun j hj hjs
   ·exact liftY_trans (new1:=[]) (fun _ h=>h) h3.orX (by simp[h4]) .nil (fun _ h=>by simp at h) hl
theorem awpY_sound {P:Program} {X:Nat→Prop} (hm:P.follows .mixedOrders=true) {st:List Tmp} {plans:List (Nat×Plan)} {n:Nat} :∀(c:Code) {Q:Exit→Env X→Slots→Store→Prop} {E:Env X} {A:Slots} {σ:Store},codeOkY st plans n c=true→awpY P st plans n c Q E A σ→AWpY P n c Q E A σ:=by
 intro c
 induction c with
 |skip=>intro Q E A σ _ h ρ D G a w hR;exact wpIn_skip (liftY_here hR h)
 |label l=>intro Q E A σ _ h ρ D G a w hR;exact wpIn_label (liftY_here hR h)
 |exit id=>intro Q E A σ _ h ρ D G a w hR;exact wpIn_exit (liftY_here hR h)
 |goto l=>intro Q E A σ _ h ρ D G a w hR;exact wpIn_goto (liftY_here hR h)
 |ret=>intro Q E A σ _ h ρ D G a w hR;exact wpIn_ret (liftY_here hR h)
 |seq x y ihx ihy=>
  intro Q E A σ hok h
  simp only[codeOkY,Bool.and_eq_true] at hok
  refine AWpY.seq ((ihx hok.1 h).mono fun e E A σ hh=> ?_)
  cases e with
  |normal=>exact ihy hok.2 hh
  |_=>exact hh
 |cond c x y ihx ihy=>
  intro Q E A σ hok h
  simp only[codeOkY,Bool.and_eq_true] at hok
  simp only[awpY] at h
  split at h
  ·rename_i b hb
   refine AWpY.cond hb ?_
   cases b
   ·exact ihy hok.2 h
   ·exact ihx hok.1 h
  ·exact h.elim
 |block id c ih=>intro Q E A σ hok h;exact AWpY.block (ih hok h)
 |region id ops draw=>
  intro Q E A σ hok h ρ D G a w hR
  simp only[codeOkY,Bool.and_eq_true,Bool.or_eq_true,List.all_eq_true] at hok
  simp only[awpY] at h
  cases draw with
  |false=>
   simp only[Bool.false_eq_true,if_false] at h
   refine wpIn_region ?_
   rw[List.range_eq_range',←Array.length_toList]
   exact aopsY_sound hok.1 _ _ (fun a' w' hl=>hl) hR h
  |true=>
   simp only[if_true] at h
   cases hp:plans.lookup id with
   |none=>rw[hp] at h;exact h.elim
   |some p=>
    rw[hp] at h
    have hok2:=hok.2
    simp only[hp,Bool.not_true,Bool.false_eq_true,false_or] at hok2
    have plain:planOk st ops ops.size (Array.replicate ops.size false) p=true→aplan P st ops (Q .normal E) p A σ→(Code.region id ops true).wpIn (Fw ρ) 0 P (fun e a' w'=>liftY ρ D n G w a.defers (Q e) a' w') a w:=fun hok2 h=>
     wpIn_region_any hm (aAnyIn_sound hok.1 _ _ (fun a' w' hl hd=>liftY_of_lift (K:=Q .normal E) hR hl hd fun _ _ hk=>hk) (Ext.drew (w:=w)) hR.rel.drew rfl (planOk_sound _ _ p _ _ hok2 h))
    cases p with
    |step k q=>
     simp only[planY] at h
     dsimp only at hok2
     by_cases hk:1000000≤k
     ·rw[if_pos hk] at h hok2
      simp only[Bool.and_eq_true,decide_eq_true_eq] at hok2
      generalize k-1000000=m at*
      obtain ⟨⟨htl,hms⟩,hok2⟩:=hok2
      have hlow:lowOk ops=true:=by
       have:=htl
       simp only[tailOk,Bool.and_eq_true] at this;exact this.1
      have hx:Ext (OrX D X) G w G w.drew:=Ext.orX (Ext.drew (w:=w))
      have hRd:RelY ρ D n G A σ a w.drew E:=⟨hR.rel.drew,hR.sit.step Ext.drew,hR.round.step hx⟩
      refine wpIn_region_any hm ?_
      have:=aAnyTail_sound hok.1 htl hlow (Nat.le_of_lt hms) (ρ:=ρ) (Q:=Q .normal) (Q':=fun e a' w'=>liftY ρ D n G w a.defers (Q e) a' w') m (Array.replicate ops.size false) (Array.replicate m false) (a:=a) (w:=w.drew) (D:=D) (G:=G) (E:=E)
       ⟨by simp,by simp,fun i hi=>by simp[hi,show i<ops.size by omega]⟩ (fun i hi=>by rw[Array.getD_eq_getD_getElem?] at hi;by_cases hb:i<ops.size<;>simp[hb] at hi) (fun i h1 h2=>by simp[Array.getD_eq_getD_getElem?,h2])
       (fun a' w' hl=>liftY_trans (new1:=[]) (fun _ h=>h) hx (by simp) .nil (fun _ h=>by simp at h) hl) hRd (planOk_sound _ _ q _ _ hok2 h)
      rwa[show m+(ops.size-m)=ops.size by omega] at this
     ·rw[if_neg hk] at h hok2
      exact plain hok2 h
    |done=>exact plain hok2 h
    |alt p q=>exact plain hok2 h
 |_=>intro Q E A σ _ h;exact h
end Go.AL
namespace Go.AL
open Go Go.RowKit Classical
variable [GL]
set_option linter.unusedSectionVars false
def objCells:Obj→Bool
 | .cells .. | .map .. | .stringIter .. | .mapIter .. =>true
 |_=>false
theorem share_plain (v:AV):v.share.plain=true:=by
 cases v with
 |agg cs=>simp[AV.share,AV.plain,plain1_drop1]
 |tuple cs=>simp[AV.share,AV.plain,plain1_drop1]
 |_=>rfl
theorem WR.putOut {D:Nat→Prop} {G:Ghost} {σ:Store} {w:World} (h:WR D G σ w) {K:Nat} {o o':Obj} (hK:w.heap[K]?=some o) (hc:objCells o=false):WR D G σ (w.putObj K o'):=by
 have hne:∀ {g:Nat} {c:Array Value} {e:TypeId} {f:Nat×Nat},w.heap[g]?=some (Obj.cells c e f)→(w.putObj K o').heap[g]?=some (Obj.cells c e f):=fun {g c e f} hg=>by
  rw[World.putObj_heap_other]
  ·exact hg
  ·rintro rfl
   rw[hK] at hg;cases hg;cases hc
 refine ⟨fun g i u hu=> ?_,fun g n z π hg=> ?_,fun o cs hcs=> ?_,h.laid,fun g cs hg=> ?_,fun g cs hg=>let ⟨q,T,fz,e⟩:=h.vars g cs hg;⟨q,T,fz,hne e⟩⟩
 ·obtain ⟨c,e,f,q1,q2⟩:=h.frz g i u hu;exact ⟨c,e,f,hne q1,q2⟩
 ·obtain ⟨q1,⟨c,e,q2,q3⟩,q4⟩:=h.own g n z π hg;exact ⟨q1,⟨c,e,q2.keep fun _ k=>hne k,q3⟩,q4⟩
 ·obtain ⟨q1,q2,q3,c,e,q4,q5,q6⟩:=h.obj o cs hcs;exact ⟨q1,q2,q3,c,e,hne q4,q5,q6⟩
 ·obtain ⟨q1,qi,ob,q2,q3⟩:=h.oth g cs hg
  refine ⟨q1,qi,ob, ?_,q3⟩
  rw[World.putObj_heap_other]
  ·exact q2
  ·rintro rfl;rw[hK] at q2;obtain rfl:=Option.some.inj q2;cases q3<;>cases hc
theorem Ext.putOut {D:Nat→Prop} (G:Ghost) (w:World) {K:Nat} (o':Obj) (hD:D K):Ext D G w G (w.putObj K o'):=
 ⟨rfl,rfl,rfl,by simp,fun _ _ _ h=>h,fun k hk=>⟨World.putObj_heap_other (fun e=>hk (e▸hD)),rfl,rfl⟩⟩
theorem WR.grow {D D1:Nat→Prop} {G:Ghost} {σ:Store} {w w1:World} (h:WR D G σ w) (hold:∀k,k<w.heap.size→w1.heap[k]?=w.heap[k]?) (hD:∀k,D k→k<w.heap.size→D1 k):WR D1 G σ w1:=by
 have hne:∀ {g x},w.heap[g]?=some x→w1.heap[g]?=some x:=fun {g x} hg=>(hold g (Array.getElem?_eq_some_iff.1 hg).1).trans hg
 refine ⟨fun g i u hu=> ?_,fun g n z π hg=> ?_,fun o cs hcs=> ?_,h.laid,fun g cs hg=> ?_,fun g cs hg=>let ⟨q,T,fz,e⟩:=h.vars g cs hg;⟨q,T,fz,hne e⟩⟩
 ·obtain ⟨c,e,f,q1,q2⟩:=h.frz g i u hu;exact ⟨c,e,f,hne q1,q2⟩
 ·obtain ⟨q1,⟨c,e,q2,q3⟩,q4⟩:=h.own g n z π hg;exact ⟨q1,⟨c,e,q2.keep fun _ k=>hne k,q3⟩,q4⟩
 ·obtain ⟨q1,q2,q3,c,e,q4,q5,q6⟩:=h.obj o cs hcs
  refine ⟨hD o q1 (Array.getElem?_eq_some_iff.1 q4).1,q2,q3,c,e,hne q4,q5,fun i c' u hc hu=> ?_⟩
  obtain ⟨r1,r2,r3⟩:=q6 i c' u hc hu
  refine ⟨r1,r2, ?_⟩
  unfold Own1 at*
  split at r3
  ·rcases r3 with r3|⟨s1,z,s2,s3⟩
   ·exact .inl r3
   obtain ⟨_,⟨c2,e2,⟨_,s4,_⟩,_⟩,_⟩:=h.own _ _ _ _ s2
   exact .inr ⟨hD _ s1 (Array.getElem?_eq_some_iff.1 s4).1,z,s2,s3⟩
  ·trivial
 ·obtain ⟨q1,qi,ob,q2,q3⟩:=h.oth g cs hg
  exact ⟨hD g q1 (Array.getElem?_eq_some_iff.1 q2).1,qi,ob,hne q2,q3⟩
theorem Own1.grow {D D1:Nat→Prop} {G:Ghost} {σ:Store} {w:World} (h:WR D G σ w) (hD:∀k,D k→k<w.heap.size→D1 k) {π:Place} {a:AV} {v:Value} (r3:Own1 G D π a v):Own1 G D1 π a v:=by
 unfold Own1 at*
 split at r3
 ·rcases r3 with r3|⟨s1,z,s2,s3⟩
  ·exact .inl r3
  obtain ⟨_,⟨c2,e2,⟨_,s4,_⟩,_⟩,_⟩:=h.own _ _ _ _ s2
  exact .inr ⟨hD _ s1 (Array.getElem?_eq_some_iff.1 s4).1,z,s2,s3⟩
 ·trivial
theorem OwnAt.grow {D D1:Nat→Prop} {G:Ghost} {σ:Store} {w:World} (h:WR D G σ w) (hD:∀k,D k→k<w.heap.size→D1 k) {r:Nat→Place} {a:AV} {v:Value} (ho:OwnAt G D r a v):OwnAt G D1 r a v:=by
 unfold OwnAt at*
 split at ho
 ·exact fun j c u hc hu=>(ho j c u hc hu).grow h hD
 ·exact fun j c u hc hu=>(ho j c u hc hu).grow h hD
 ·exact Own1.grow h hD ho
def aretY (P:Program) {X:Nat→Prop} (rs:List ResultVar) (R:AV→Store→Env X→Prop):Exit→Env X→Slots→Store→Prop
 | .normal,E,A,σ| .ret,E,A,σ=>match ares P A σ rs with
  |some v=>∃v' σ',v.le v'∧Store.sub σ' σ∧R v' σ' E
  |none=>False
 |_,_,_,_=>False
def putAll:List Nat→World→World
 |[],w=>w
 |K::r,w=>putAll r (w.putObj K (.deferred none))
theorem leaves_marks {P:Program} {fn:Func} {tmps:Array Value} {R:Ending→World→Prop} :∀(new:List Nat) (w:World),new.Nodup→(∀K∈new,w.heap[K]?=some (.deferred (some [])))→
  (∃v,(results fn tmps).run P (putAll new w)= .ok v (putAll new w)∧R (.returned v) (putAll new w))→LeavesInM (Fw none) 0 P fn tmps R (new.map mark) .returning w
 |[],_,_,_,h=>h
 |K::r,w,hn,hK,h=>by
  refine ⟨by simp, .inl ⟨K,_,rfl,run_takeDeferred (hK K (by simp)), ?_⟩⟩
  refine leaves_marks r _ hn.of_cons (fun K' hK'=> ?_) h
  rw[World.putObj_heap_other]
  ·exact hK K' (by simp[hK'])
  ·rintro rfl;exact (List.nodup_cons.1 hn).1 hK'
theorem putAll_keeps {D D' X:Nat→Prop} {G:Ghost} {σ:Store} {E:Env X} :∀(new:List Nat) (w:World),new.Nodup→Marks D D' X new w→WR D' G σ w→Sit E D' G w→WR D' G σ (putAll new w)∧Sit E D' G (putAll new w)∧Ext (OrX D X) G w G (putAll new w)
 |[],_,_,_,h,k=>⟨h,k,Ext.refl ..⟩
 |K::r,w,hn,hm,h,k=>by
  obtain ⟨m1,m2,m3,m4⟩:=hm K (by simp)
  have hE:Ext (OrX D X) G w G (w.putObj K (.deferred none)):=Ext.putOut G w _ (.inl m1)
  have hX:∀j,X j→(w.putObj K (.deferred none)).heap[j]?=w.heap[j]?:=fun j hj=>World.putObj_heap_other (fun e=>m3 (e▸hj))
  obtain ⟨q1,q2,q3⟩:=putAll_keeps r (w.putObj K (.deferred none)) hn.of_cons (fun K' hK'=>by
   obtain ⟨p1,p2,p3,p4⟩:=hm K' (by simp[hK'])
   refine ⟨p1,p2,p3, ?_⟩
   rw[World.putObj_heap_other]
   ·exact p4
   ·rintro rfl;exact (List.nodup_cons.1 hn).1 hK') (h.putOut m4 rfl) ⟨k.out,fun j hj=>by rw[hX j hj];exact k.loops j hj,E.stable k.env (fun _ _ _ h=>h) hX⟩
  exact ⟨q1,q2,hE.trans q3⟩
theorem ACallsY.of_awp {P:Program} {X:Nat→Prop} (hm:P.follows .mixedOrders=true) {f:FuncId} {fn:Func} {c:Code} (hf:P.funcs[f]?=some fn) (hb:fn.body=some c) {st:List Tmp} {plans:List (Nat×Plan)} {args:List AV} (hr:resOk fn.results.toList=true)
  {n:Nat} (hn:args.length+(fn.ntmps-args.length)=n) (hok:codeOkY st plans n c=true) {σ:Store} {E:Env X} {R:AV→Store→Env X→Prop} (h:awpY P st plans n c (aretY P fn.results.toList R) E (slotsOf args) σ):ACallsY P f args σ E R:=by
 intro D G w cargs hl hargs hW hD hS
 refine (callsIn_Fw (ρ:=none) (n:=0)).1 (callsIn_of_wp_marks hf hb trivial ?_)
 have hR:RelY none D n (G.mv D fromArg) (slotsOf args) σ {tmps:=cargs++Array.replicate (fn.ntmps-cargs.size) undef,defers:=[]} w E:=by
  have key:∀i,(∃c u,args[i]?=some c∧cargs[i]?=some u∧slotsOf args i=c∧(cargs++Array.replicate (fn.ntmps-cargs.size) undef).getD i undef=u)∨slotsOf args i= .top:=by
   intro i
   rcases Nat.lt_or_ge i args.length with hi|hi
   ·refine .inl ⟨args[i],cargs[i]'(by omega),by simp,by simp,by simp[slotsOf,hi], ?_⟩
    simp[Array.getD_eq_getD_getElem?,Array.getElem?_append_left (show i<cargs.size by omega),show i<cargs.size by omega]
   ·exact .inr (by simp[slotsOf,hi])
  refine ⟨⟨rfl,by simp;omega,fun i=> ?_,fun i=> ?_,hW.mv _ (fun _ _=>rfl),hD⟩,hS.step (Ext.mv ..),fun l hl=>by cases hl⟩
  ·rcases key i with ⟨c,u,h1,h2,h3,h4⟩|h3
   ·rw[h3];simp only[h4];exact (hargs i c u h1 h2).1
   ·rw[h3];exact .top _
  ·rcases key i with ⟨c,u,h1,h2,h3,h4⟩|h3
   ·rw[h3];simp only[h4];exact (hargs i c u h1 h2).2.re fun g m z j hd hg=>by rw[Ghost.mv_some hd hg];rfl
   ·rw[h3];exact OwnAt.of_plain rfl
 refine wpIn_mono (awpY_sound hm c hok h none D _ _ w hR) fun e a' w' hl'=> ?_
 obtain ⟨D',G',A',σ',E',new,h1,h2,h3,h4,h5,h6,h7⟩:=hl'
 have fin:(match ares P A' σ' fn.results.toList with|some v=>∃v' σ'',v.le v'∧Store.sub σ'' σ'∧R v' σ'' E'|none=>False)→
   LeavesInM (Fw none) 0 P fn a'.tmps (fun e w'=>∃v cv G' σ' E',e= .returned cv∧R v σ' E'∧VR G'.F v cv∧OwnAt G' D .acc v cv∧WR D G' σ' w'∧Ext (OrX D X) G w G' w'∧Sit E' D G' w') a'.defers .returning w':=by
  intro hh
  split at hh
  case h_2=>exact hh.elim
  rename_i v hv
  obtain ⟨v',σ'',hle,hsub,hRR⟩:=hh
  obtain ⟨p1,p2,p3⟩:=putAll_keeps new w' h6 h7 h3.rel.world h3.sit
  have hR2:Rel D' n G' A' σ' (bare a') (putAll new w'):=h3.rel.step (fun _ _ _ h=>h) (fun _ _ _ _ _ _ h=>h) p1 p3.size
  obtain ⟨cv,q1,q2,q3⟩:=ares_sound hr hR2 hv
  rw[h5,List.append_nil]
  refine leaves_marks new w' h6 (fun K hK=>(h7 K hK).2.2.2) ⟨cv,q1,v',cv,G'.mv D' (toRes fn.results.toList),σ'',E',rfl,hRR,(hle _ _ q2).1,((hle _ _ q2).2 _ _ _ q3).wide h1,(((p1.mv _ (fun _ _=>rfl)).forget hsub)).wide h1, ?_, ?_⟩
  ·exact (((Ext.mv ..).orX.trans h4).trans p3).trans ((Ext.mv (D:=D') ..).wide fun k hk=> .inl (h1 k hk))
  ·exact (p2.step (Ext.mv (D:=D') ..)).more hS.out
 cases e with
 |normal=>exact fin h2
 |ret=>exact fin h2
 |_=>exact h2.elim
def AddX (X:Nat→Prop) (l:Nat):Nat→Prop:=fun k=>X k∨k=l
structure Link where
 A:Slots
 n:Nat
 ps:Array Tmp
 assign:Code
 body:Code
def Env.link {X:Nat→Prop} (E:Env X) (l:Nat) (L:Link) (st:LoopState) (pe:Option Code):Env (AddX X l) where
 holds F w:=E.holds F w∧∃fn tmps K,w.heap[l]?=some (.loop {state:=st,pending:=pe,fn,tmps,params:=L.ps,assign:=L.assign,body:=L.body,defers:=K})∧tmps.size=L.n∧∀i,VR F (L.A i) (tmps.getD i undef)
 stable:=fun {F F' w w'} h hF hX=>by
  obtain ⟨h1,fn,tmps,K,h2,h3,h4⟩:=h
  exact ⟨E.stable h1 hF fun k hk=>hX k (.inl hk),fn,tmps,K,by rw[hX l (.inr rfl)];exact h2,h3,fun i=>(h4 i).mono hF⟩
def setPs:Slots→List Tmp→List AV→Slots
 |A,p::ps,v::vs=>setPs (upd A p v.share) ps vs
 |A,_,_=>A
theorem setPs_VR {F:Frz} :∀(ps:List Tmp) (vs:List AV) (us:List Value) (A:Slots) (tmps:Array Value),vs.length=us.length→(∀p∈ps,p<tmps.size)→(∀i,VR F (A i) (tmps.getD i undef))→
  (∀(i:Nat) (c:AV) (u:Value),vs[i]?=some c→us[i]?=some u→VR F c u)→∀i,VR F (setPs A ps vs i) (((ps.zip us).foldl (fun t (p:Tmp×Value)=>t.setIfInBounds p.1 p.2) tmps).getD i undef)
 |[],vs,us,A,tmps,_,_,hA,_,i=>by simpa[setPs] using hA i
 |p::ps,[],[],A,tmps,_,_,hA,_,i=>by simpa[setPs] using hA i
 |p::ps,v::vs,u::us,A,tmps,hl,hp,hA,hv,i=>by
  simp only[setPs,List.zip_cons_cons,List.foldl_cons]
  refine setPs_VR ps vs us _ _ (by simpa using hl) (fun q hq=>by simpa using hp q (by simp[hq])) (fun j=> ?_) (fun j c u' hc hu=>hv (j+1) c u' (by simpa using hc) (by simpa using hu)) i
  rw[getD_set]
  simp only[upd]
  by_cases hj:j=p
  ·subst hj
   rw[if_pos rfl,if_pos ⟨rfl,hp j (by simp)⟩]
   exact (hv 0 v u (by simp) (by simp)).share
  ·rw[if_neg hj,if_neg (fun h=>hj h.1)];exact hA j
theorem setPs_plain:∀(ps:List Tmp) (vs:List AV) (A:Slots),(∀i,(A i).plain=true)→∀i,(setPs A ps vs i).plain=true
 |[],_,_,h,i=>by simpa[setPs] using h i
 |_::_,[],_,h,i=>by simpa[setPs] using h i
 |p::ps,v::vs,A,h,i=>by
  simp only[setPs]
  refine setPs_plain ps vs _ (fun j=> ?_) i
  simp only[upd];split
  ·exact share_plain v
  ·exact h j
theorem setPs_size:∀(l:List (Tmp×Value)) (tmps:Array Value),(l.foldl (fun t (p:Tmp×Value)=>t.setIfInBounds p.1 p.2) tmps).size=tmps.size
 |[],_=>rfl
 |_::l,tmps=>by simp only[List.foldl_cons];rw[setPs_size l];simp
def rndQ {X:Nat→Prop} (l:Nat) (L:Link) (R:Bool→Store→Env (AddX X l)→Prop):Exit→Env X→Slots→Store→Prop
 | .normal,E,_,σ=>R true σ (E.link l L .ready none)
 | .ret,E,_,σ=>R false σ (E.link l L .done (some .ret))
 | .exit id,E,_,σ=>R false σ (E.link l L .done (some (.exit id)))
 | .goto t,E,_,σ=>R false σ (E.link l L .done (some (.goto t)))
 |_,_,_,_=>False
theorem AYields.of_round {P:Program} {X:Nat→Prop} {l:Nat} (hX:¬X l) {L:Link} {xs:List AV} (hlen:xs.length=L.ps.size) (hps:∀p∈L.ps.toList,p<L.n) (hpl:∀i,(L.A i).plain=true) {σ:Store} {E:Env X} {R:Bool→Store→Env (AddX X l)→Prop}
  (h:AWpY P L.n L.assign (thenY (AWpY P L.n L.body (rndQ l L R)) fun _ _ _ _=>False) E (setPs L.A L.ps.toList xs) σ):AYields P (X:=AddX X l) l xs σ (E.link l L .ready none) R:=by
 intro D G w cargs h1 h2 h3 h4 h5
 obtain ⟨hE,fn,tmps,K,hl,hsz,hv⟩:=h5.env
 have hDl:¬D l:=h5.out l (.inr rfl)
 refine ⟨fn,_,L.assign,L.body,run_yield hl (by simp;omega), ?_⟩
 refine roundIn_of_wpIn (F:=Fence.wide) trivial ?_
 have hfold:(L.ps.zip cargs).foldl (fun tmps (p:Tmp×Value)=>tmps.setIfInBounds p.1 p.2) tmps=(L.ps.toList.zip cargs.toList).foldl (fun tmps (p:Tmp×Value)=>tmps.setIfInBounds p.1 p.2) tmps:=by
  rw[←Array.foldl_toList,Array.toList_zip]
 have hR:RelY (some l) D L.n G (setPs L.A L.ps.toList xs) σ {tmps:=(L.ps.zip cargs).foldl (fun tmps (p:Tmp×Value)=>tmps.setIfInBounds p.1 p.2) tmps,defers:=[]} w E:=by
  refine ⟨⟨rfl, ?_,fun i=> ?_,fun i=>OwnAt.of_plain (setPs_plain _ _ _ hpl i),h3,h4⟩,⟨fun k hk=>h5.out k (.inl hk),fun k hk=>h5.loops k (.inl hk),hE⟩,fun l' hl'=> ?_⟩
  ·show Array.size _=_
   rw[hfold,setPs_size];exact hsz
  ·show VR G.F _ (Array.getD _ _ _)
   rw[hfold]
   exact setPs_VR _ _ _ _ _ (by simpa using h1) (fun p hp=>by rw[hsz];exact hps p hp) hv (fun i c u hc hu=>(h2 i c u hc (by simpa using hu)).1) i
  ·cases hl';exact ⟨hDl,hX,_,hl⟩
 refine wpIn_mono (h (some l) D G _ w hR) fun e a1 w1 hl1=> ?_
 cases e with
 |normal=> ?_
 |_=>obtain ⟨_,_,_,_,_,_,_,hf,_⟩:=hl1;exact hf.elim
 obtain ⟨D1,G1,A1,σ1,E1,new,d1,q,R1,x1,_⟩:=hl1
 have hl':w1.heap[l]?=some (.loop {state:= .ready,pending:=none,fn:=fn,tmps:=tmps,params:=L.ps,assign:=L.assign,body:=L.body,defers:=K}):=by
  rw[(x1.block l (fun hh=>hh.elim hDl hX)).1];exact hl
 refine ⟨_,run_beginRound hl' rfl, ?_⟩
 generalize hw2:w1.putObj l _=w2
 have hl2:w2.heap[l]?=some (.loop {state:= .busy,pending:=none,fn:=fn,tmps:=tmps,params:=L.ps,assign:=L.assign,body:=L.body,defers:=K}):=by
  rw[←hw2];exact World.putObj_heap_same (Array.getElem?_eq_some_iff.1 hl').1
 have hX2:∀j,X j→w2.heap[j]?=w1.heap[j]?:=fun j hj=>by rw[←hw2];exact World.putObj_heap_other (fun e=>hX (e▸hj))
 have x2:Ext (OrX D (AddX X l)) G w G1 w2:=(x1.wide fun k hk=>hk.imp id .inl).trans (by rw[←hw2];exact Ext.putOut G1 w1 _ (.inr (.inr rfl)))
 have R2:RelY (some l) D1 L.n G1 A1 σ1 a1 w2 E1:=by
  refine ⟨R1.rel.step (fun _ _ _ h=>h) (fun _ _ _ _ _ _ h=>h) (by rw[←hw2];exact R1.rel.world.putOut hl' rfl) (by rw[←hw2];simp),⟨R1.sit.out,fun j hj=>by rw[hX2 j hj];exact R1.sit.loops j hj,E1.stable R1.sit.env (fun _ _ _ h=>h) hX2⟩,fun l' hl''=> ?_⟩
  cases hl'';exact ⟨fun hd=>hDl (d1 l hd),hX,_,hl2⟩
 refine wpIn_mono (q (some l) D1 G1 a1 w2 R2) fun e a3 w3 hl3=> ?_
 obtain ⟨D3,G3,A3,σ3,E3,new3,d3,q3,R3,x3,_⟩:=hl3
 have hl3:w3.heap[l]?=some (.loop {state:= .busy,pending:=none,fn:=fn,tmps:=tmps,params:=L.ps,assign:=L.assign,body:=L.body,defers:=K}):=by
  rw[(x3.block l (fun hh=>hh.elim (fun hd=>hDl (d1 l hd)) hX)).1];exact hl2
 have fin:∀(jump:Option Code),R jump.isNone σ3 (E3.link l L (if jump.isNone then .ready else .done) jump)→∃v w',(Instr.endRound l jump).run P w3= .ok v w'∧
   ∃b G' σ' E',Ending.returned v= .returned (.bool b)∧R b σ' E'∧WR D G' σ' w'∧Ext (OrX D (AddX X l)) G w G' w'∧Sit E' D G' w':=by
  intro jump hRj
  refine ⟨_,_,run_endRound jump hl3, ?_⟩
  generalize hw4:w3.putObj l _=w4
  have hl4:w4.heap[l]?=some (.loop {state:=if jump.isNone then .ready else .done,pending:=jump,fn:=fn,tmps:=tmps,params:=L.ps,assign:=L.assign,body:=L.body,defers:=K}):=by
   rw[←hw4];exact World.putObj_heap_same (Array.getElem?_eq_some_iff.1 hl3).1
  have hX4:∀j,X j→w4.heap[j]?=w3.heap[j]?:=fun j hj=>by rw[←hw4];exact World.putObj_heap_other (fun e=>hX (e▸hj))
  have x4:Ext (OrX D (AddX X l)) G w G3 w4:=(x2.trans (x3.wide fun k hk=>hk.imp (d1 k) .inl)).trans (by rw[←hw4];exact Ext.putOut G3 w3 _ (.inr (.inr rfl)))
  refine ⟨jump.isNone,G3,σ3,_,rfl,hRj,(by rw[←hw4];exact (R3.rel.world.putOut hl3 rfl).wide fun k hk=>d1 k (d3 k hk)),x4,⟨h5.out,fun k hk=> ?_, ?_⟩⟩
  ·rcases hk with hk|rfl
   ·rw[hX4 k hk];exact R3.sit.loops k hk
   ·exact ⟨_,hl4⟩
  ·exact ⟨E3.stable R3.sit.env (fun _ _ _ h=>h) hX4,fn,tmps,K,hl4,hsz,fun i=>(hv i).mono x4.frz⟩
 cases e with
 |normal=>exact fin none q3
 |ret=>exact fin (some .ret) q3
 |exit id=>exact fin (some (.exit id)) q3
 |goto t=>exact fin (some (.goto t)) q3
 |_=>exact q3.elim
end Go.AL
namespace Go.AL
open Go Go.RowKit Classical
variable [GL]
set_option linter.unusedSectionVars false
theorem ACallsY.frame {P:Program} {X:Nat→Prop} {f:FuncId} {args:List AV} {σ:Store} {E:Env X} {R:AV→Store→Env X→Prop} (hc:ACallsY P f args σ E R) {D:Nat→Prop} {n:Nat} {G:Ghost} {A:Slots} {a:Act} {w:World} (h:Rel D n G A σ a w) (hs:Sit E D G w)
  {cargs:Array Value} (hl:args.length=cargs.size) (hargs:∀(i:Nat) (c:AV) (u:Value),args[i]?=some c→cargs[i]?=some u→VR G.F c u∧OwnAt G D (.arg i) c u):
  Calls P f cargs w fun e w'=>∃v cv G' σ' E',e= .returned cv∧R v σ' E'∧VR G'.F v cv∧OwnAt G' D .acc v cv∧Rel D n G' A σ' a w'∧Ext (OrX D X) G w G' w'∧Sit E' D G' w':=by
 let Dc:Nat→Prop:=fun k=>w.heap.size≤k∨(∃cs,σ k=some cs)∨(D k∧∃m z i j,G.S k=some (m,z, .arg i j))∨(D k∧∃m z o j,G.S k=some (m,z, .obj o j))∨∃cs,σ (mkey k)=some cs
 have hsub:∀k,Dc k→D k:=by
  rintro k (h1|⟨cs,h2⟩|h3|h4|⟨cs,h5⟩)
  ·exact h.fresh k h1
  ·exact (h.world.obj k cs h2).1
  ·exact h3.1
  ·exact h4.1
  ·exact (h.world.oth k cs h5).1
 have own1:∀ {π:Place} {c:AV} {u:Value},(∀g m z,D g→G.S g=some (m,z,π)→Dc g)→Own1 G D π c u→Own1 G Dc π c u:=by
  intro π c u hd ho
  unfold Own1 at*
  split at ho
  ·rcases ho with ho|⟨h1,z,h2,h3⟩
   ·exact .inl ho
   ·exact .inr ⟨hd _ _ _ h1 h2,z,h2,h3⟩
  ·trivial
 have hW:WR Dc G σ w:=by
  refine ⟨h.world.frz,h.world.own,fun o cs hcs=> ?_,h.world.laid,fun g cs hg=>⟨.inr (.inr (.inr (.inr ⟨cs,hg⟩))),(h.world.oth g cs hg).2⟩,h.world.vars⟩
  obtain ⟨h1,h2,h3,cur,e,h4,h5,h6⟩:=h.world.obj o cs hcs
  refine ⟨.inr (.inl ⟨cs,hcs⟩),h2,h3,cur,e,h4,h5,fun i c u hc hu=> ?_⟩
  obtain ⟨q1,q2,q3⟩:=h6 i c u hc hu
  exact ⟨q1,q2,own1 (fun g m z hd hg=> .inr (.inr (.inr (.inl ⟨hd,m,z,o,i,hg⟩)))) q3⟩
 have hA:∀(i:Nat) (c:AV) (u:Value),args[i]?=some c→cargs[i]?=some u→VR G.F c u∧OwnAt G Dc (.arg i) c u:=by
  intro i c u hci hui
  obtain ⟨q1,q2⟩:=hargs i c u hci hui
  refine ⟨q1, ?_⟩
  have hd:∀j g m z,D g→G.S g=some (m,z, .arg i j)→Dc g:=fun j g m z hd hg=> .inr (.inr (.inl ⟨hd,m,z,i,j,hg⟩))
  unfold OwnAt at q2⊢
  split at q2
  ·exact fun j c u hc hu=>own1 (hd j) (q2 j c u hc hu)
  ·exact fun j c u hc hu=>own1 (hd j) (q2 j c u hc hu)
  ·exact own1 (hd 0) q2
 refine (hc Dc G w cargs hl hA hW (fun k hk=> .inl hk) (hs.less hsub)).mono ?_
 rintro e w' ⟨v,cv,G',σ',E',he,hR,hv,ho,hW',hext,hs'⟩
 refine ⟨v,cv,G',σ',E',he,hR,hv,ho.wide hsub,h.step hext.frz (fun g m z i j hd hg=> ?_) (hW'.wide hsub) hext.size,hext.wide (OrX.mono hsub),hs'.more hs.out⟩
 have hnot:¬OrX Dc X g:=by
  obtain ⟨q1,⟨c,e',⟨_,q2,_⟩,_⟩,_⟩:=h.world.own g m z _ hg
  rintro ((h1|⟨cs,h2⟩|⟨_,m',z',i',j',h3⟩|⟨_,m',z',i',j',h3⟩|⟨cs,h5⟩)|h4)
  ·have:=(Array.getElem?_eq_some_iff.1 q2).1;omega
  ·rw[q1] at h2;cases h2
  ·rw[hg] at h3;simp at h3
  ·rw[hg] at h3;simp at h3
  ·exact h.world.oth_own h5 hg
  ·obtain ⟨r,hr⟩:=hs.loops g h4;rw[hr] at q2;cases q2
 rw[(hext.block g hnot).2.1];exact hg
theorem run_enter_in {P:Program} {w:World} {l₀:Nat} {r₀:Loop} (h:w.heap[l₀]?=some (.loop r₀)) (fn:FuncId) (tmps:Array Value) (ps:Array Tmp) (assign body:Code):
  (Instr.enterLoop fn tmps ps assign body (some l₀)).run P w=
   .ok (w.heap.size,[]) (w.alloc (.loop {state:= .ready,pending:=none,fn,tmps,params:=ps,assign,body,defers:=r₀.defers})):=by
 unfold Instr.enterLoop
 simp only[Sem.run_bind,run_getLoop h,run_newObj_alloc,Result.andThen,Sem.run_pure]
theorem enter_ok {P:Program} {ρ:Option Nat} {D X:Nat→Prop} {w:World} (hr:InRound ρ D X w) (fn:FuncId) (tmps:Array Value) (ps:Array Tmp) (assign body:Code):
  ∃(l:Nat) (new:List Nat) (w1:World) (K:Nat),(Instr.enterLoop fn tmps ps assign body ρ).run P w= .ok (l,new.map mark) w1∧w.heap.size≤l∧l<w1.heap.size∧w1.heap[l]?=some (.loop {state:= .ready,pending:=none,fn,tmps,params:=ps,assign,body,defers:=K})∧
   (∀K∈new,w.heap.size≤K∧K<w1.heap.size∧K≠l∧w1.heap[K]?=some (.deferred (some [])))∧new.Nodup∧(∀k,k<w.heap.size→w1.heap[k]?=w.heap[k]?)∧w1.os=w.os∧w1.tape=w.tape∧w1.output=w.output:=by
 cases ρ with
 |none=>
  refine ⟨_,[w.heap.size],_,w.heap.size,run_enterLoop_outer fn tmps ps assign body,by simp,by simp, ?_,fun K hK=> ?_,by simp,fun k hk=> ?_,rfl,rfl,rfl⟩
  ·have:=World.alloc_heap_new (w.alloc (.deferred (some []))) (.loop {state:= .ready,pending:=none,fn,tmps,params:=ps,assign,body,defers:=w.heap.size});rwa[World.size_alloc] at this
  ·simp at hK;subst hK
   refine ⟨Nat.le_refl _,by simp;omega,by omega, ?_⟩
   exact (Below.heap_alloc _ _ _ (by simp)).trans (World.alloc_heap_new w _)
  ·exact (Below.heap_alloc _ _ _ (by simp;omega)).trans (Below.heap_alloc _ _ _ hk)
 |some l0=>
  obtain ⟨_,_,r,hl0⟩:=hr l0 rfl
  refine ⟨_,[],_,r.defers,run_enter_in hl0 fn tmps ps assign body,Nat.le_refl _,by simp,World.alloc_heap_new w _,fun K hK=>by simp at hK, .nil,fun k hk=>Below.heap_alloc _ _ _ hk,rfl,rfl,rfl⟩
def jumpQ {X:Nat→Prop} (Q:Exit→Env X→Slots→Store→Prop):Code→Env X→Slots→Store→Prop
 | .ret=>Q .ret
 | .exit id=>Q (.exit id)
 | .goto t=>Q (.goto t)
 |_=>fun _ _ _=>False
theorem AWpY.range {P:Program} {X:Nat→Prop} {n:Nat} {g:Operand} {ps:Array Tmp} {assign body:Code} {f:FuncId} {caps:List AV} {A:Slots} {σ:Store} {E:Env X} {Q:Exit→Env X→Slots→Store→Prop} (hg:evalA A g= .func (.func f) [] caps) (hc:callable P f=true)
  (h:∀l,¬X l→ACallsY P (X:=AddX X l) f (.func (.yield l) [] []::caps.map AV.share) σ (E.link l ⟨fun i=>(A i).share,n,ps,assign,body⟩ .ready none) fun _ σ' E'=>
   (∃E0,E'=E0.link l ⟨fun i=>(A i).share,n,ps,assign,body⟩ .ready none∧Q .normal E0 A σ')∨(∃E0 c,E'=E0.link l ⟨fun i=>(A i).share,n,ps,assign,body⟩ .done (some c)∧jumpQ Q c E0 A σ')):
  AWpY P n (.rangeFunc g ps assign body) Q E A σ:=by
 intro ρ D G a w hR
 refine wpIn_rangeFunc fun fn _=> ?_
 obtain ⟨l,new,w1,K,hent,hl1,hl2,hl3,hnew,hnd,hold,hos,htape,hout⟩:=enter_ok (P:=P) hR.round fn a.tmps ps assign body
 have hfv:=hR.rel.eval g
 have heq:(bare a).eval=a.eval:=rfl
 rw[hg,heq] at hfv
 generalize hfe:a.eval g=fv at hfv
 cases hfv with|func _ _ _ ufs ucs l1 l2 v1 v2=> ?_
 have e1:ufs= #[]:=by simpa using l1.symm
 subst e1
 have hszw:w.heap.size≤w1.heap.size:=by omega
 have hXlt:∀k,X k→k<w.heap.size:=fun k hk=>by obtain ⟨r,hr⟩:=hR.sit.loops k hk;exact (Array.getElem?_eq_some_iff.1 hr).1
 have hXl:¬X l:=fun hx=>by have:=hXlt l hx;omega
 let D1:Nat→Prop:=fun k=>D k∧k≠l∧k∉new
 have hDD:∀k,D k→k<w.heap.size→D1 k:=fun k hk hlt=>⟨hk,by omega,fun hm=>by have:=(hnew k hm).1;omega⟩
 have hW1:WR D1 G σ w1:=hR.rel.world.grow hold hDD
 have hR1:Rel D1 n G A σ (bare a) w1:=⟨rfl,hR.rel.size,hR.rel.val,fun i=>(hR.rel.own i).grow hR.rel.world hDD,hW1,fun k hk=>⟨hR.rel.fresh k (by omega),by omega,fun hm=>by have:=(hnew k hm).2.1;omega⟩⟩
 have hX1:∀k,X k→w1.heap[k]?=w.heap[k]?:=fun k hk=>hold k (hXlt k hk)
 have hS1:Sit (E.link l ⟨fun i=>(A i).share,n,ps,assign,body⟩ .ready none) D1 G w1:=by
  refine ⟨fun k hk hd=> ?_,fun k hk=> ?_,E.stable hR.sit.env (fun _ _ _ h=>h) hX1,fn,a.tmps,K,hl3,hR.rel.size,fun i=>(hR.rel.val i).share⟩
  ·rcases hk with hk|rfl
   ·exact hR.sit.out k hk hd.1
   ·exact hd.2.1 rfl
  ·rcases hk with hk|rfl
   ·rw[hX1 k hk];exact hR.sit.loops k hk
   ·exact ⟨_,hl3⟩
 have hx1:Ext D G w G w1:=⟨hos,htape,hout,hszw,fun _ _ _ h=>h,fun k hk=>⟨hold k (Nat.lt_of_not_le fun hle=>hk (hR.rel.fresh k hle)),rfl,rfl⟩⟩
 refine ⟨l,new.map mark,w1, {target:= .fn (.func f) ucs,args:= #[.func (.yield l) #[] #[]]},w1,f, #[.func (.yield l) #[] #[]]++ucs,w1,hent, ?_,fun _ _=>trivial, ?_,fun hx=>by simp[Fw,Fence.wide] at hx, ?_⟩
 ·simp only[resolve,hfe]
  simp[go_sem]
 ·simp[invoke,run_callFunc hc]
 ·have hargs:∀(i:Nat) (c:AV) (u:Value),(AV.func (.yield l) [] []::caps.map AV.share)[i]?=some c→(#[Value.func (.yield l) #[] #[]]++ucs)[i]?=some u→VR G.F c u∧OwnAt G D1 (.arg i) c u:=by
   intro i c u hci hui
   cases i with
   |zero=>
    simp at hci;subst hci
    rw[Array.getElem?_append_left (by simp)] at hui
    simp at hui;subst hui
    exact ⟨.func _ _ _ _ _ rfl rfl (by simp) (by simp),OwnAt.of_plain rfl⟩
   |succ i=>
    rw[Array.getElem?_append_right (by simp)] at hui
    simp at hci hui
    have:=plain_list (F:=G.F) v2 G D1 (fun j=> .arg (j+1)) i c u (by simpa using hci) hui
    exact this
  have hlen:(AV.func (.yield l) [] []::caps.map AV.share).length=(#[Value.func (.yield l) #[] #[]]++ucs).size:=by
   simp only[List.length_cons,List.length_map,Array.size_append,l2]
   simp;omega
  have hcall:=(h l hXl).frame hR1 hS1 hlen hargs
  refine callsIn_Fw.2 (hcall.mono ?_)
  ·rintro e w3 ⟨v,cv,G3,σ3,E3,rfl,hR3,_,_,hRel,hext,hS3⟩
   have hDl:¬D1 l:=fun hd=>hd.2.1 rfl
   have d1:∀k,D1 k→D k:=fun k hk=>hk.1
   have core:∀(E0:Env X) (st:LoopState) (pe:Option Code),st≠ .busy→E3=E0.link l ⟨fun i=>(A i).share,n,ps,assign,body⟩ st pe→
     ∃w4,(Instr.endLoop l).run P w3= .ok pe w4∧RelY ρ D1 n G3 A σ3 {a with defers:=new.map mark++a.defers} w4 E0∧Ext (OrX D X) G w G3 w4∧Marks D D1 X new w4:=by
    intro E0 st pe hst hE3
    subst hE3
    obtain ⟨q1,fn',tmps',K',q2,_⟩:=hS3.env
    refine ⟨_,run_endLoop q2 hst, ?_⟩
    generalize hw4:w3.putObj l _=w4
    have hoth:∀k,k≠l→w4.heap[k]?=w3.heap[k]?:=fun k hk=>by rw[←hw4];exact World.putObj_heap_other hk
    have hX4:∀j,X j→w4.heap[j]?=w3.heap[j]?:=fun j hj=>hoth j (fun e=>hXl (e▸hj))
    have hx4:Ext (OrX D X) G w G3 w4:=by
     refine (hx1.orX.trans (hext.wide fun k hk=> ?_)).trans (by rw[←hw4];exact Ext.putOut G3 w3 _ (.inl (hR.rel.fresh l hl1)))
     rcases hk with hk|hk|rfl
     ·exact .inl hk.1
     ·exact .inr hk
     ·exact .inl (hR.rel.fresh k hl1)
    refine ⟨⟨hRel.step (fun _ _ _ h=>h) (fun _ _ _ _ _ _ h=>h) (by rw[←hw4];exact hRel.world.putOut q2 rfl) (by rw[←hw4];simp),⟨fun k hk=>hS3.out k (.inl hk),fun k hk=>by rw[hX4 k hk];exact hS3.loops k (.inl hk),E0.stable q1 (fun _ _ _ h=>h) hX4⟩,(hR.round.step hx4).less d1⟩,hx4,fun K2 hK2=> ?_⟩
    obtain ⟨r1,r2,r3,r4⟩:=hnew K2 hK2
    have n1:¬D1 K2:=fun hd=>hd.2.2 hK2
    have n2:¬X K2:=fun hx=>by have:=hXlt K2 hx;omega
    refine ⟨hR.rel.fresh K2 r1,n1,n2, ?_⟩
    rw[hoth K2 r3,(hext.block K2 (fun hh=>hh.elim n1 fun hh=>hh.elim n2 r3)).1];exact r4
   rcases hR3 with ⟨E0,hE3,hQ⟩|⟨E0,c,hE3,hQ⟩
   ·obtain ⟨w4,k1,k2,k3,k4⟩:=core E0 .ready none (by simp) hE3
    exact ⟨none,w4,k1,D1,G3,A,σ3,E0,new,d1,hQ,k2,k3,rfl,hnd,k4⟩
   ·obtain ⟨w4,k1,k2,k3,k4⟩:=core E0 .done (some c) (by simp) hE3
    refine ⟨some c,w4,k1, ?_⟩
    cases c with
    |ret=>exact wpIn_ret ⟨D1,G3,A,σ3,E0,new,d1,hQ,k2,k3,rfl,hnd,k4⟩
    |exit id=>exact wpIn_exit ⟨D1,G3,A,σ3,E0,new,d1,hQ,k2,k3,rfl,hnd,k4⟩
    |goto t=>exact wpIn_goto ⟨D1,G3,A,σ3,E0,new,d1,hQ,k2,k3,rfl,hnd,k4⟩
    |_=>exact hQ.elim
def noX:Nat→Prop:=fun _=>False
def Env.none:Env noX:=⟨fun _ _=>True,fun _ _ _=>trivial⟩
theorem ACalls.of_Y {P:Program} {f:FuncId} {args:List AV} {σ:Store} {R:AV→Store→Prop} (h:ACallsY P f args σ Env.none fun v σ' _=>R v σ'):ACalls P f args σ R:=by
 intro D G w cargs h1 h2 h3 h4
 refine (h D G w cargs h1 h2 h3 h4 ⟨fun _ h=>h.elim,fun _ h=>h.elim,trivial⟩).mono ?_
 rintro e w' ⟨v,cv,G',σ',E',q1,q2,q3,q4,q5,q6,_⟩
 exact ⟨v,cv,G',σ',q1,q2,q3,q4,q5,q6.wide fun k hk=>hk.elim id fun hh=>hh.elim⟩
theorem ACalls.of_awpY {P:Program} (hm:P.follows .mixedOrders=true) {f:FuncId} {fn:Func} {c:Code} (hf:P.funcs[f]?=some fn) (hb:fn.body=some c) {st:List Tmp} {plans:List (Nat×Plan)} {args:List AV} (hr:resOk fn.results.toList=true)
  {n:Nat} (hn:args.length+(fn.ntmps-args.length)=n) (hok:codeOkY st plans n c=true) {σ:Store} {R:AV→Store→Prop} (h:awpY P st plans n c (aretY P fn.results.toList fun v σ' _=>R v σ') Env.none (slotsOf args) σ):ACalls P f args σ R:=
 ACalls.of_Y (ACallsY.of_awp hm hf hb hr hn hok h)
end Go.AL
namespace Go.AL
open Go
variable [GL]
set_option linter.unusedSectionVars false
def codeYK (P:Program) {X:Nat→Prop} (n:Nat) (c:Code) (Q:Exit→Env X→Slots→Store→Prop) (E:Env X) (A:Slots) (σ:Store) (_t:Tag Q:= .mk):Prop:=AWpY P n c Q E A σ
theorem codeYK.loop {P:Program} {X:Nat→Prop} (hm:P.follows .mixedOrders=true) {st:List Tmp} {plans:List (Nat×Plan)} {n:Nat} {c:Code} {Q:Exit→Env X→Slots→Store→Prop} {E:Env X} {A:Slots} {σ:Store} {t:Tag Q} {S:Type} (Inv:S→Prop) (sl:S→List (Nat×AV)) (so:S→Store) (en:S→Env X→Prop) (μ:S→Nat) (x0:S)
  (hok:codeOkY st plans n c=true) (h0:Inv x0) (hA:LeL A (sl x0)) (hσ:Store.sub (so x0) σ) (hE:en x0 E)
  (round:∀x E,Inv x→en x E→awpY P st plans n c (thenY (fun E' A' σ'=>∃y,Inv y∧μ y<μ x∧LeL A' (sl y)∧Store.sub (so y) σ'∧en y E') Q) E (slotsL (sl x)) (so x)):codeYK P n (.loop c) Q E A σ t:=
 AWpY.loop Inv (fun x=>slotsL (sl x)) so en μ x0 h0 (Slots.le_of hA) hσ hE fun x E hx he=>(awpY_sound hm c hok (round x E hx he)).mono fun e E' A' σ' h=>by
  cases e with
  |normal=>obtain ⟨y,h1,h2,h3,h4,h5⟩:=h;exact ⟨y,h1,h2,Slots.le_of h3,h4,h5⟩
  |_=>exact h
theorem Store.sub_over (τ' τ σ:Store):Store.sub τ' (Store.over τ' τ σ):=fun o=>by
 simp only[Store.over]
 cases h:τ' o with
 |none=>exact .inl rfl
 |some cs=>exact .inr rfl
theorem Store.over_apart {τ' τ σ:Store} (h:Apart τ' τ σ) {o:Nat} (ht:τ o=none) (hs:σ o≠none):Store.over τ' τ σ o=σ o:=by
 simp[Store.over,h o ht hs,ht]
theorem Store.sub_trans {a b c:Store} (h:Store.sub a b) (k:Store.sub b c):Store.sub a c:=fun o=>by
 rcases h o with h|h
 ·exact .inl h
 ·rcases k o with k|k
  ·exact .inl (h.trans k)
  ·exact .inr (h.trans k)
theorem yieldK.of {P:Program} {X:Nat→Prop} {l:Nat} {args args':List AV} {τ σ:Store} {E:Env X} {R R':Bool→Store→Env X→Prop} {t:Tag R'} (hl:AllLe args args') (h:AYields P l args' τ E R) (hs:Store.sub τ σ)
  (hr:∀b τ' E',R b τ' E'→Apart τ' τ σ→R' b (Store.over τ' τ σ) E'):yieldK P l args σ E R' t:=
 ⟨τ,hs,(AYields.le hl h).mono fun b τ' E' hR hap=>hr b τ' E' hR hap⟩
theorem AWpY.rangeK {P:Program} {X:Nat→Prop} {n:Nat} {g:Operand} {ps:Array Tmp} {assign body:Code} {A:Slots} {σ:Store} {E:Env X} {Q:Exit→Env X→Slots→Store→Prop} {t:Tag Q} {f:FuncId} {caps:List AV} (hg:evalA A g= .func (.func f) [] caps) (hc:callable P f=true)
  (h:∀l,¬X l→ACallsY P (X:=AddX X l) f (.func (.yield l) [] []::caps.map AV.share) σ (E.link l ⟨fun i=>(A i).share,n,ps,assign,body⟩ .ready none) fun _ σ' E'=>
   (∃E0,E'=E0.link l ⟨fun i=>(A i).share,n,ps,assign,body⟩ .ready none∧Q .normal E0 A σ')∨(∃E0 c,E'=E0.link l ⟨fun i=>(A i).share,n,ps,assign,body⟩ .done (some c)∧jumpQ Q c E0 A σ')):
  codeYK P n (.rangeFunc g ps assign body) Q E A σ t:=AWpY.range hg hc h
section
variable (P:Program) (st:List Tmp) (plans:List (Nat×Plan)) (n:Nat) {X:Nat→Prop} (Q:Exit→Env X→Slots→Store→Prop) (E:Env X) (A:Slots) (σ:Store)
theorem y_seq (x y:Code):awpY P st plans n (.seq x y) Q E A σ=awpY P st plans n x (thenY (awpY P st plans n y Q) Q) E A σ:=nr rfl
theorem y_skip:awpY P st plans n .skip Q E A σ=Q .normal E A σ:=nr rfl
theorem y_label (l:Nat):awpY P st plans n (.label l) Q E A σ=Q .normal E A σ:=nr rfl
theorem y_exit (l:Nat):awpY P st plans n (.exit l) Q E A σ=Q (.exit l) E A σ:=nr rfl
theorem y_goto (l:Nat):awpY P st plans n (.goto l) Q E A σ=Q (.goto l) E A σ:=nr rfl
theorem y_ret:awpY P st plans n .ret Q E A σ=Q .ret E A σ:=nr rfl
theorem y_block (id:Nat) (c:Code):awpY P st plans n (.block id c) Q E A σ=awpY P st plans n c (blockY id Q) E A σ:=nr rfl
theorem y_cond (c:Operand) (x y:Code):awpY P st plans n (.cond c x y) Q E A σ=withO (boolOf (evalA A c)) fun b=>if b=true then awpY P st plans n x Q E A σ else awpY P st plans n y Q E A σ:=nr (by
 rw[awpY];dsimp only
 cases evalA A c with
 |lit v=>cases v<;>kernel_rfl
 |_=>kernel_rfl)
theorem y_region (id:Nat) (ops:Array Oper):awpY P st plans n (.region id ops false) Q E A σ=aopsYAt P st ops (Q .normal) ops.toList 0 E A σ:=nr (by simp only[awpY,Bool.false_eq_true,if_false])
theorem y_draw (id:Nat) (ops:Array Oper):awpY P st plans n (.region id ops true) Q E A σ=withO (plans.lookup id) fun p=>planY P st ops Q p E A σ:=nr (by simp only[awpY,if_true];cases plans.lookup id<;>rfl)
theorem y_plan_tail (ops:Array Oper) (m:Nat) (p:Plan):planY P st ops Q (Plan.tail m p) E A σ=aplan P st (ops.extract 0 m) (fun A' σ'=>aopsYAt P st ops (Q .normal) (ops.toList.drop m) m E A' σ') p A σ:=nr (by
 simp only[Plan.tail,planY];rw[if_pos (by omega),show 1000000+m-1000000=m by omega])
theorem y_plan_alt (ops:Array Oper) (p q:Plan):planY P st ops Q (.alt p q) E A σ=aplan P st ops (Q .normal E) (.alt p q) A σ:=nr rfl
theorem y_plan_done (ops:Array Oper):planY P st ops Q .done E A σ=aplan P st ops (Q .normal E) .done A σ:=nr rfl
theorem y_plan_seq (ops:Array Oper) (i:Nat) (l:List Nat) (p:Plan):planY P st ops Q (Plan.seq (i::l) p) E A σ=if 1000000≤i then planY P st ops Q (.step i (Plan.seq l p)) E A σ else aplan P st ops (Q .normal E) (Plan.seq (i::l) p) A σ:=nr (by
 by_cases h:1000000≤i
 ·rw[if_pos h];rfl
 ·rw[if_neg h];show planY P st ops Q (.step i (Plan.seq l p)) E A σ=_;simp only[planY];rw[if_neg h];rfl)
theorem y_loop (c:Code):awpY P st plans n (.loop c) Q E A σ=codeYK P n (.loop c) Q E A σ:=nr rfl
theorem y_rangeFunc (f:Operand) (ps:Array Tmp) (c d:Code):awpY P st plans n (.rangeFunc f ps c d) Q E A σ=codeYK P n (.rangeFunc f ps c d) Q E A σ:=nr rfl
theorem y_then_normal (N:Env X→Slots→Store→Prop):thenY N Q .normal E A σ=N E A σ:=nr rfl
theorem y_then_ret (N:Env X→Slots→Store→Prop):thenY N Q .ret E A σ=Q .ret E A σ:=nr rfl
theorem y_then_exit (N:Env X→Slots→Store→Prop) (l:Nat):thenY N Q (.exit l) E A σ=Q (.exit l) E A σ:=nr rfl
theorem y_then_goto (N:Env X→Slots→Store→Prop) (l:Nat):thenY N Q (.goto l) E A σ=Q (.goto l) E A σ:=nr rfl
theorem y_block_normal (id:Nat):blockY id Q .normal E A σ=Q .normal E A σ:=nr rfl
theorem y_block_ret (id:Nat):blockY id Q .ret E A σ=Q .ret E A σ:=nr rfl
theorem y_block_exit (id l:Nat):blockY id Q (.exit l) E A σ=if l=id then Q .normal E A σ else Q (.exit l) E A σ:=nr (by simp only[blockY];split<;>rfl)
theorem y_block_goto (id l:Nat):blockY id Q (.goto l) E A σ=Q (.goto l) E A σ:=nr rfl
theorem y_ret_normal (rs:List ResultVar) (R:AV→Store→Env X→Prop):aretY P rs R .normal E A σ=withO (ares P A σ rs) fun v=>∃v' σ',v.le v'∧Store.sub σ' σ∧R v' σ' E:=nr (by kernel_rfl)
theorem y_ret_ret (rs:List ResultVar) (R:AV→Store→Env X→Prop):aretY P rs R .ret E A σ=withO (ares P A σ rs) fun v=>∃v' σ',v.le v'∧Store.sub σ' σ∧R v' σ' E:=nr (by kernel_rfl)
variable (l:Nat) (L:Link) (R:Bool→Store→Env (AddX X l)→Prop)
theorem y_rnd_normal:rndQ l L R .normal E A σ=R true σ (E.link l L .ready none):=nr rfl
theorem y_rnd_ret:rndQ l L R .ret E A σ=R false σ (E.link l L .done (some .ret)):=nr rfl
theorem y_rnd_exit (id:Nat):rndQ l L R (.exit id) E A σ=R false σ (E.link l L .done (some (.exit id))):=nr rfl
theorem y_rnd_goto (id:Nat):rndQ l L R (.goto id) E A σ=R false σ (E.link l L .done (some (.goto id))):=nr rfl
end
def estepYO (P:Program) (st:List Tmp) (ops:Array Oper) (o:Oper) {X:Nat→Prop} (K:Env X→Slots→Store→Prop) (E:Env X) (A:Slots) (σ:Store):Prop:=
 match o.guard with
 |none=>runY P st o K E A σ
 |some (j,want)=>match yieldedA ops A j with
  |some b=>if b=some want then runY P st o K E A σ else K E (aput A o.dst (.lit undef)) σ
  |none=>False
def isVC:Op→Bool
 | .call c=>match c.callee with
  | .value _=>true
  |_=>false
 |_=>false
def yCase (y:Option Nat) (Y:Nat→Prop) (N:Prop):Prop:=match y with|some l=>Y l|none=>N
theorem yCase_some (l:Nat) (Y:Nat→Prop) (N:Prop):yCase (some l) Y N=Y l:=nr rfl
theorem yCase_none (Y:Nat→Prop) (N:Prop):yCase none Y N=N:=nr rfl
@[simp] theorem yieldL_yield (l:Nat):yieldL (.func (.yield l) [] [])=some l:=nr rfl
@[simp] theorem yieldL_func (f:FuncId) (as bs:List AV):yieldL (.func (.func f) as bs)=none:=nr rfl
section
variable (P:Program) (st:List Tmp) (ops:Array Oper) {X:Nat→Prop} (Q K:Env X→Slots→Store→Prop) (E:Env X) (A:Slots) (σ:Store)
theorem y_nil (i:Nat):aopsYAt P st ops Q [] i E A σ=Q E A σ:=nr rfl
theorem y_cons (o:Oper) (rest:List Oper) (i:Nat):aopsYAt P st ops Q (o::rest) i E A σ=estepY P st ops i (aopsYAt P st ops Q rest (i+1)) E A σ:=nr rfl
theorem y_estep (i:Nat):estepY P st ops i K E A σ=withO (ops[i]?) fun o=>estepYO P st ops o K E A σ:=nr (by
 unfold estepY estepYO
 cases ops[i]?<;>rfl)
variable (d:Option Tmp) (op:Op) (ty:TypeId) (ps:String) (af:Array Edge) (g:Option (Nat×Bool))
theorem yieldOf_old (h:isVC op=false):yieldOf A ⟨d,op,ty,ps,af,g⟩=none:=by
 unfold yieldOf
 cases op with
 |call c=>
  obtain ⟨callee,as,ts⟩:=c
  cases callee<;>first|rfl|(simp[isVC] at h)
 |_=>rfl
theorem y_old (h:isVC op=false):estepYO P st ops ⟨d,op,ty,ps,af,g⟩ K E A σ=estepO P st ops ⟨d,op,ty,ps,af,g⟩ (K E) A σ:=by
 unfold estepYO estepO runY
 rw[yieldOf_old _ _ _ _ _ _ _ h]
 cases g with
 |none=>rfl
 |some q=>rfl
theorem y_move (x:Operand):estepYO P st ops ⟨d, .move x,ty,ps,af,g⟩ K E A σ=estepO P st ops ⟨d, .move x,ty,ps,af,g⟩ (K E) A σ:=nr (y_old P st ops K E A σ d _ ty ps af g rfl)
theorem y_assign (x:Operand):estepYO P st ops ⟨d, .assign x,ty,ps,af,g⟩ K E A σ=estepO P st ops ⟨d, .assign x,ty,ps,af,g⟩ (K E) A σ:=nr (y_old P st ops K E A σ d _ ty ps af g rfl)
theorem y_pick (c a b:Operand):estepYO P st ops ⟨d, .pick c a b,ty,ps,af,g⟩ K E A σ=estepO P st ops ⟨d, .pick c a b,ty,ps,af,g⟩ (K E) A σ:=nr (y_old P st ops K E A σ d _ ty ps af g rfl)
theorem y_alloc (elem:TypeId):estepYO P st ops ⟨d, .alloc elem,ty,ps,af,g⟩ K E A σ=estepO P st ops ⟨d, .alloc elem,ty,ps,af,g⟩ (K E) A σ:=nr (y_old P st ops K E A σ d _ ty ps af g rfl)
theorem y_box (elem:TypeId) (v:Operand):estepYO P st ops ⟨d, .box elem v,ty,ps,af,g⟩ K E A σ=estepO P st ops ⟨d, .box elem v,ty,ps,af,g⟩ (K E) A σ:=nr (y_old P st ops K E A σ d _ ty ps af g rfl)
theorem y_build (t:TypeId) (parts:Array (Nat×Operand)):estepYO P st ops ⟨d, .build t parts,ty,ps,af,g⟩ K E A σ=estepO P st ops ⟨d, .build t parts,ty,ps,af,g⟩ (K E) A σ:=nr (y_old P st ops K E A σ d _ ty ps af g rfl)
theorem y_buildSlice (t:TypeId) (len:Nat) (parts:Array (Nat×Operand)):estepYO P st ops ⟨d, .buildSlice t len parts,ty,ps,af,g⟩ K E A σ=estepO P st ops ⟨d, .buildSlice t len parts,ty,ps,af,g⟩ (K E) A σ:=nr (y_old P st ops K E A σ d _ ty ps af g rfl)
theorem y_load (t:TypeId) (addr:Operand):estepYO P st ops ⟨d, .load t addr,ty,ps,af,g⟩ K E A σ=estepO P st ops ⟨d, .load t addr,ty,ps,af,g⟩ (K E) A σ:=nr (y_old P st ops K E A σ d _ ty ps af g rfl)
theorem y_store (t:TypeId) (addr val:Operand):estepYO P st ops ⟨d, .store t addr val,ty,ps,af,g⟩ K E A σ=estepO P st ops ⟨d, .store t addr val,ty,ps,af,g⟩ (K E) A σ:=nr (y_old P st ops K E A σ d _ ty ps af g rfl)
theorem y_nilCheck (x:Operand):estepYO P st ops ⟨d, .nilCheck x,ty,ps,af,g⟩ K E A σ=estepO P st ops ⟨d, .nilCheck x,ty,ps,af,g⟩ (K E) A σ:=nr (y_old P st ops K E A σ d _ ty ps af g rfl)
theorem y_binOp (op:BinOp) (xType:TypeId) (x y:Operand) (yType:TypeId):estepYO P st ops ⟨d, .binOp op xType x y yType,ty,ps,af,g⟩ K E A σ=estepO P st ops ⟨d, .binOp op xType x y yType,ty,ps,af,g⟩ (K E) A σ:=nr (y_old P st ops K E A σ d _ ty ps af g rfl)
theorem y_unOp (op:UnOp) (xType:TypeId) (x:Operand):estepYO P st ops ⟨d, .unOp op xType x,ty,ps,af,g⟩ K E A σ=estepO P st ops ⟨d, .unOp op xType x,ty,ps,af,g⟩ (K E) A σ:=nr (y_old P st ops K E A σ d _ ty ps af g rfl)
theorem y_convert (src dst:TypeId) (x:Operand):estepYO P st ops ⟨d, .convert src dst x,ty,ps,af,g⟩ K E A σ=estepO P st ops ⟨d, .convert src dst x,ty,ps,af,g⟩ (K E) A σ:=nr (y_old P st ops K E A σ d _ ty ps af g rfl)
theorem y_makeInterface (xType:TypeId) (x:Operand):estepYO P st ops ⟨d, .makeInterface xType x,ty,ps,af,g⟩ K E A σ=estepO P st ops ⟨d, .makeInterface xType x,ty,ps,af,g⟩ (K E) A σ:=nr (y_old P st ops K E A σ d _ ty ps af g rfl)
theorem y_makeFunc (fn:Fn) (first captured:Array Operand):estepYO P st ops ⟨d, .makeFunc fn first captured,ty,ps,af,g⟩ K E A σ=estepO P st ops ⟨d, .makeFunc fn first captured,ty,ps,af,g⟩ (K E) A σ:=nr (y_old P st ops K E A σ d _ ty ps af g rfl)
theorem y_makeSlice (t:TypeId) (len cap:Operand):estepYO P st ops ⟨d, .makeSlice t len cap,ty,ps,af,g⟩ K E A σ=estepO P st ops ⟨d, .makeSlice t len cap,ty,ps,af,g⟩ (K E) A σ:=nr (y_old P st ops K E A σ d _ ty ps af g rfl)
theorem y_slice (xType:TypeId) (x:Operand) (low high max:Option Operand):estepYO P st ops ⟨d, .slice xType x low high max,ty,ps,af,g⟩ K E A σ=estepO P st ops ⟨d, .slice xType x low high max,ty,ps,af,g⟩ (K E) A σ:=nr (y_old P st ops K E A σ d _ ty ps af g rfl)
theorem y_fieldAddr (xType:TypeId) (x:Operand) (field:Nat):estepYO P st ops ⟨d, .fieldAddr xType x field,ty,ps,af,g⟩ K E A σ=estepO P st ops ⟨d, .fieldAddr xType x field,ty,ps,af,g⟩ (K E) A σ:=nr (y_old P st ops K E A σ d _ ty ps af g rfl)
theorem y_field (xType:TypeId) (x:Operand) (field:Nat):estepYO P st ops ⟨d, .field xType x field,ty,ps,af,g⟩ K E A σ=estepO P st ops ⟨d, .field xType x field,ty,ps,af,g⟩ (K E) A σ:=nr (y_old P st ops K E A σ d _ ty ps af g rfl)
theorem y_indexAddr (xType:TypeId) (x index:Operand):estepYO P st ops ⟨d, .indexAddr xType x index,ty,ps,af,g⟩ K E A σ=estepO P st ops ⟨d, .indexAddr xType x index,ty,ps,af,g⟩ (K E) A σ:=nr (y_old P st ops K E A σ d _ ty ps af g rfl)
theorem y_index (xType:TypeId) (x index:Operand):estepYO P st ops ⟨d, .index xType x index,ty,ps,af,g⟩ K E A σ=estepO P st ops ⟨d, .index xType x index,ty,ps,af,g⟩ (K E) A σ:=nr (y_old P st ops K E A σ d _ ty ps af g rfl)
theorem y_lookup (xType:TypeId) (x index:Operand) (commaOk:Bool):estepYO P st ops ⟨d, .lookup xType x index commaOk,ty,ps,af,g⟩ K E A σ=estepO P st ops ⟨d, .lookup xType x index commaOk,ty,ps,af,g⟩ (K E) A σ:=nr (y_old P st ops K E A σ d _ ty ps af g rfl)
theorem y_mapUpdate (mapType:TypeId) (map key value:Operand):estepYO P st ops ⟨d, .mapUpdate mapType map key value,ty,ps,af,g⟩ K E A σ=estepO P st ops ⟨d, .mapUpdate mapType map key value,ty,ps,af,g⟩ (K E) A σ:=nr (y_old P st ops K E A σ d _ ty ps af g rfl)
theorem y_extract (tuple:Operand) (index:Nat):estepYO P st ops ⟨d, .extract tuple index,ty,ps,af,g⟩ K E A σ=estepO P st ops ⟨d, .extract tuple index,ty,ps,af,g⟩ (K E) A σ:=nr (y_old P st ops K E A σ d _ ty ps af g rfl)
theorem y_call_builtin (b:Builtin) (as:Array Operand) (ts:Array TypeId):estepYO P st ops ⟨d, .call ⟨.builtin b,as,ts⟩,ty,ps,af,g⟩ K E A σ=estepO P st ops ⟨d, .call ⟨.builtin b,as,ts⟩,ty,ps,af,g⟩ (K E) A σ:=nr (y_old P st ops K E A σ d _ ty ps af g rfl)
theorem y_call (d:Tmp) (f:Operand) (args:Array Operand) (ts:Array TypeId):estepYO P st ops ⟨some d, .call ⟨.value f,args,ts⟩,ty,ps,af,none⟩ K E A σ=withV (yieldL (evalA A f)) fun y=>yCase y
  (fun l=>takeArgs P args.toList ts.toList A fun vs A'=>yieldK P l vs σ E fun b σ' E'=>K E' (upd A' d (.lit (.bool b))) σ') (estepO P st ops ⟨some d, .call ⟨.value f,args,ts⟩,ty,ps,af,none⟩ (K E) A σ):=nr (by
 unfold estepYO estepO runY yieldOf withV yCase
 dsimp only
 cases yieldL (evalA A f)<;>rfl)
theorem y_call0 (f:Operand) (args:Array Operand) (ts:Array TypeId):estepYO P st ops ⟨none, .call ⟨.value f,args,ts⟩,ty,ps,af,none⟩ K E A σ=withV (yieldL (evalA A f)) fun y=>yCase y
  (fun l=>takeArgs P args.toList ts.toList A fun vs A'=>yieldK P l vs σ E fun _ σ' E'=>K E' A' σ') (estepO P st ops ⟨none, .call ⟨.value f,args,ts⟩,ty,ps,af,none⟩ (K E) A σ):=nr (by
 unfold estepYO estepO runY yieldOf withV yCase
 dsimp only
 cases yieldL (evalA A f)<;>rfl)
theorem y_callG (d:Tmp) (f:Operand) (args:Array Operand) (ts:Array TypeId) (j:Nat) (want:Bool):estepYO P st ops ⟨some d, .call ⟨.value f,args,ts⟩,ty,ps,af,some (j,want)⟩ K E A σ=withO (yieldedA ops A j) fun b=>if b=some want then withV (yieldL (evalA A f)) fun y=>yCase y
  (fun l=>takeArgs P args.toList ts.toList A fun vs A'=>yieldK P l vs σ E fun b σ' E'=>K E' (upd A' d (.lit (.bool b))) σ') (aoper P st ⟨some d, .call ⟨.value f,args,ts⟩,ty,ps,af,some (j,want)⟩ A σ fun v A' σ'=>K E (upd A' d v) σ') else K E (upd A d (.lit (.tuple #[]))) σ:=nr (by
 unfold estepYO runY yieldOf withV yCase withO
 dsimp only
 cases yieldedA ops A j with
 |none=>rfl
 |some b=>cases yieldL (evalA A f)<;>rfl)
end
attribute [simp ↓] y_seq y_skip y_label y_exit y_goto y_ret y_block y_cond y_region y_draw y_plan_tail y_plan_alt y_plan_done y_plan_seq y_loop y_rangeFunc y_then_normal y_then_ret y_then_exit y_then_goto y_block_normal y_block_ret y_block_exit y_block_goto y_ret_normal y_ret_ret y_rnd_normal y_rnd_ret y_rnd_exit y_rnd_goto
 yCase_some yCase_none y_nil y_cons y_estep y_call y_call0 y_callG y_move y_assign y_pick y_alloc y_box y_build y_buildSlice y_load y_store y_nilCheck y_binOp y_unOp y_convert y_makeInterface y_makeFunc y_makeSlice y_slice y_fieldAddr y_field y_indexAddr y_index y_lookup y_mapUpdate y_extract y_call_builtin
attribute [simp] Store.sub_over
end Go.AL
