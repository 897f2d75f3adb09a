/-
 The abstract-state logic: the equations of its functions, for simp. Printed by a program of mine off the functions.
-/
import Derived.Test.YtjnopnpkfhopbaaGreatDoorALPart5
import Derived.KernelRfl
import Derived.Laws.Strings
set_option linter.unusedSimpArgs false
set_option linter.unusedVariables false
set_option maxRecDepth 8000
set_option maxHeartbeats 8000000
namespace Go.AL
open Go
variable [GL]
set_option linter.unusedSectionVars false
universe u
theorem nr {α:Sort u} {a b:α} (h:a=b):a=b:=h
@[simp] theorem objRow_obj (p:Addr) (n cap:Nat):objRow (AV.lit (Value.slice (some p) n cap))=true:=nr rfl
@[simp] theorem objRow_list (o:Bool) (n:Nat) (l:List AV):objRow (AV.list o n l)=false:=nr rfl
@[simp] theorem objRow_nil (n cap:Nat):objRow (AV.lit (Value.slice none n cap))=false:=nr rfl
@[simp] theorem objRow_agg (l:List AV):objRow (AV.agg l)=false:=nr rfl
@[simp] theorem e_aFreeze_1:
 ∀(σ:Store) (K:AV→Store→Prop) (p n cap:Nat),
  aFreeze (AV.lit (Value.slice (some {block:=p,off:=0}) n cap)) σ K=
   match σ ↑p with
   |some cs=>
    n≤cap∧
     List.length cs=cap∧
      cap≤maxLen∧
       (∀(v:AV),v∈List.take n cs→AV.cells v=[v])∧K (AV.list true 1 (List.take n cs)) (Store.del σ p)
   |none=>False:=by
 intros;apply nr;first|rfl|(apply Go.AL.aFreeze.eq_1<;>assumption)
@[simp] theorem e_aFreeze_2:
 ∀(x:AV) (σ:Store) (K:AV→Store→Prop),
  (∀(p n cap:Nat),x=AV.lit (Value.slice (some {block:=p,off:=0}) n cap)→False)→aFreeze x σ K=False:=by
 intros;apply nr;first|rfl|(apply Go.AL.aFreeze.eq_2<;>assumption)
@[simp] theorem e_isRow_1:
 ∀(p n:Nat),isRow (AV.row p n)=true:=by
 intros;apply nr;first|rfl|(apply Go.AL.isRow.eq_1<;>assumption)
@[simp] theorem e_isRow_2:
 ∀(x:AV),(∀(p n:Nat),x=AV.row p n→False)→isRow x=false:=by
 intros;apply nr;first|rfl|(apply Go.AL.isRow.eq_2<;>assumption)
@[simp] theorem e_isVoid_1:
 ∀(a:Option Addr),isVoid (AV.lit (Value.slice a 0 0))=true:=by
 intros;apply nr;first|rfl|(apply Go.AL.isVoid.eq_1<;>assumption)
@[simp] theorem e_isVoid_2:
 ∀(x:AV),(∀(a:Option Addr),x=AV.lit (Value.slice a 0 0)→False)→isVoid x=false:=by
 intros;apply nr;first|rfl|(apply Go.AL.isVoid.eq_2<;>assumption)
@[simp] theorem e_rowAV_1:
 ∀(σ:Store) (sz p n:Nat),
  rowAV σ sz (AV.row p n)=
   match σ ↑p with
   |some ds=>if n*sz≤List.length ds then some (n,List.take (n*sz) ds) else none
   |none=>none:=by
 intros;apply nr;first|rfl|(apply Go.AL.rowAV.eq_1<;>assumption)
@[simp] theorem e_rowAV_2:
 ∀(σ:Store) (sz:Nat) (x:AV),(∀(p n:Nat),x=AV.row p n→False)→rowAV σ sz x=none:=by
 intros;apply nr;first|rfl|(apply Go.AL.rowAV.eq_2<;>assumption)
@[simp] theorem e_strA_1:
 ∀(P:Program) (t:TypeId) (s:ByteArray),
  strA P t (AV.lit (Value.string s))=if tStr P t=true then some s else none:=by
 intros;apply nr;first|rfl|(apply Go.AL.strA.eq_1<;>assumption)
@[simp] theorem e_strA_2:
 ∀(P:Program) (t:TypeId) (v:AV),(∀(s:ByteArray),v=AV.lit (Value.string s)→False)→strA P t v=none:=by
 intros;apply nr;first|rfl|(apply Go.AL.strA.eq_2<;>assumption)
theorem e_awp_4:
 ∀(P:Program) (st:List Tmp) (plans:List (Nat×Plan)) (n:Nat) (x:Exit→Slots→Store→Prop)
  (c:Operand) (x_2 y:Code),
  awp P st plans n (Code.cond c x_2 y) x=fun A σ=>
   match evalA A c with
   |AV.lit (Value.bool b)=>if b=true then awp P st plans n x_2 x A σ else awp P st plans n y x A σ
   |x=>False:=by
 intros;apply nr;first|rfl|(apply Go.AL.awp.eq_4<;>assumption)
theorem e_awp_9:
 ∀(P:Program) (st:List Tmp) (plans:List (Nat×Plan)) (n:Nat) (x:Exit→Slots→Store→Prop)
  (id:Nat) (ops:Array Oper) (draw:Bool),
  awp P st plans n (Code.region id ops draw) x=fun A σ=>
   if draw=true then
    match List.lookup id plans with
    |some p=>aplan P st ops (x Exit.normal) p A σ
    |none=>False
   else aopsAt P st ops (x Exit.normal) (Array.toList ops) 0 A σ:=by
 intros;apply nr;first|rfl|(apply Go.AL.awp.eq_9<;>assumption)
@[simp] theorem e_evalA_1:
 ∀(A:Slots) (t:Tmp),evalA A (Operand.tmp t)=A t:=by
 intros;apply nr;first|rfl|(apply Go.AL.evalA.eq_1<;>assumption)
@[simp] theorem e_evalA_2:
 ∀(A:Slots) (v:Value),evalA A (Operand.const v)=AV.lit v:=by
 intros;apply nr;first|rfl|(apply Go.AL.evalA.eq_2<;>assumption)
@[simp] theorem e_evalA_3:
 ∀(A:Slots) (g:Nat),evalA A (Operand.global g)=globA g:=by
 intros;apply nr;first|rfl|(apply Go.AL.evalA.eq_3<;>assumption)
@[simp] theorem e_evalA_4:
 ∀(A:Slots) (f:FuncId),evalA A (Operand.func f)=AV.func (Fn.func f) [] []:=by
 intros;apply nr;first|rfl|(apply Go.AL.evalA.eq_4<;>assumption)
@[simp] theorem e_yieldedA_1:
 ∀(ops:Array Oper) (A:Slots) (j:Nat),
  yieldedA ops A j=
   match Option.bind ops[j]? fun x=>Oper.dst x with
   |some d=>
    match A d with
    |AV.lit (Value.bool b)=>some (some b)
    |AV.lit (Value.tuple vs)=>some none
    |x=>none
   |none=>none:=by
 intros;apply nr;first|rfl|(apply Go.AL.yieldedA.eq_1<;>assumption)
@[simp] theorem e_aput_1:
 ∀(A:Slots) (v:AV) (d:Tmp),aput A (some d) v=upd A d v:=by
 intros;apply nr;first|rfl|(apply Go.AL.aput.eq_1<;>assumption)
@[simp] theorem e_aput_2:
 ∀(A:Slots) (v:AV),aput A none v=A:=by
 intros;apply nr;first|rfl|(apply Go.AL.aput.eq_2<;>assumption)
@[simp] theorem e_aBuildSlice_1:
 ∀(P:Program) (t:TypeId) (len:Nat) (parts:List (Nat×AV)),
  aBuildSlice P t len parts=
   match tElem P t with
   |some e=>
    match tSize P e,zeroEl P e with
    |some s,some z=>
     if len*s≤16777216∧0<s∧List.length (AV.cells z)=s∧AV.solid z=true then
      Option.map (AV.list true s) (setEls P e s (List.replicate len z) parts)
     else none
    |x,x_1=>none
   |none=>none:=by
 intros;apply nr;first|rfl|(apply Go.AL.aBuildSlice.eq_1<;>assumption)
@[simp] theorem e_aMake_1:
 ∀(P:Program) (byVal row:Bool) (t:TypeId) (A:Slots) (σ:Store) (K:AV→Slots→Store→Prop) (e:TypeId)
  (k:IntKind) (l_2:Int) (k_1:IntKind) (c_2:Int),
  tElem P t=some e→
   aMake P byVal row t (AV.lit (Value.int k l_2)) (AV.lit (Value.int k_1 c_2)) A σ K=
    match tSize P e,tBytes P e,azero P e,zeroEl P e with
    |some sz,some bt,some zs,some z=>
     0≤l_2∧
      l_2≤c_2∧
       0<sz∧
        List.length zs=sz∧
         List.length (AV.cells z)=sz∧
          c_2≤9223372036854775807∧
           ↑bt*c_2≤281474976710656∧
            if byVal=true then K (AV.list true sz (List.replicate (Int.toNat l_2) z)) A σ
            else
             if row=true then
              ∀(p:Nat),
               σ ↑p=none→
                K (AV.row p (Int.toNat l_2)) A
                 (Store.upd σ p (List.flatten (List.replicate (Int.toNat c_2) zs)))
             else
              ∀(p:Nat),
               σ ↑p=none→
                K (AV.lit (Value.slice (some {block:=p,off:=0}) (Int.toNat l_2) (Int.toNat c_2))) A
                 (Store.upd σ p (List.flatten (List.replicate (Int.toNat c_2) zs)))
    |x,x_1,x_2,x_3=>False:=by
 intros;apply nr;first|rfl|(apply Go.AL.aMake.eq_1<;>assumption)
@[simp] theorem e_aMake_2:
 ∀(P:Program) (byVal row:Bool) (t:TypeId) (A:Slots) (σ:Store) (K:AV→Slots→Store→Prop) (l c:AV),
  (∀(e:TypeId) (k:IntKind) (l_1:Int) (k_1:IntKind) (c_1:Int),
    tElem P t=some e→l=AV.lit (Value.int k l_1)→c=AV.lit (Value.int k_1 c_1)→False)→
   aMake P byVal row t l c A σ K=False:=by
 intros;apply nr;first|rfl|(apply Go.AL.aMake.eq_2<;>assumption)
@[simp] theorem e_aLoadTake_1:
 ∀(P:Program) (t:TypeId) (A:Slots) (σ:Store) (K:AV→Slots→Store→Prop) (o off:Nat),
  tAgg P t=some false→
   aLoadTake P t (AV.lit (Value.pointer (some {block:=o,off:=off}))) A σ K=
    match σ ↑o with
    |some cs=>
     match cs[off]? with
     |some c=>K (AV.keep1 c) A (Store.upd σ o (List.set cs off (AV.drop1 c)))
     |none=>False
    |none=>False:=by
 intros;apply nr;first|rfl|(apply Go.AL.aLoadTake.eq_1<;>assumption)
@[simp] theorem e_aLoadTake_2:
 ∀(P:Program) (t:TypeId) (A:Slots) (σ:Store) (K:AV→Slots→Store→Prop) (ad:AV),
  tAgg P t=some true→aLoadTake P t ad A σ K=aLoadTakeAgg P t ad A σ K:=by
 intros;apply nr;first|rfl|(apply Go.AL.aLoadTake.eq_2<;>assumption)
@[simp] theorem e_aLoadTake_3:
 ∀(P:Program) (t:TypeId) (A:Slots) (σ:Store) (K:AV→Slots→Store→Prop) (ad:AV),
  (tAgg P t=some true→False)→
   (∀(o off:Nat),tAgg P t=some false→ad=AV.lit (Value.pointer (some {block:=o,off:=off}))→False)→
    aLoadTake P t ad A σ K=False:=by
 intros;apply nr;first|rfl|(apply Go.AL.aLoadTake.eq_3<;>assumption)
@[simp] theorem e_aLoadTakeAgg_1:
 ∀(P:Program) (t:TypeId) (A:Slots) (σ:Store) (K:AV→Slots→Store→Prop) (s o off:Nat),
  tSize P t=some s→
   aLoadTakeAgg P t (AV.lit (Value.pointer (some {block:=o,off:=off}))) A σ K=
    match σ ↑o with
    |some cs=>
     off+s≤List.length cs∧
      K (AV.agg (List.take s (List.drop off cs))) A
       (Store.upd σ o (setRange cs off (List.map AV.drop1 (List.take s (List.drop off cs)))))
    |none=>False:=by
 intros;apply nr;first|rfl|(apply Go.AL.aLoadTakeAgg.eq_1<;>assumption)
@[simp] theorem e_aLoadTakeAgg_2:
 ∀(P:Program) (t:TypeId) (A:Slots) (σ:Store) (K:AV→Slots→Store→Prop) (ad:AV),
  (∀(s o off:Nat),tSize P t=some s→ad=AV.lit (Value.pointer (some {block:=o,off:=off}))→False)→
   aLoadTakeAgg P t ad A σ K=False:=by
 intros;apply nr;first|rfl|(apply Go.AL.aLoadTakeAgg.eq_2<;>assumption)
@[simp] theorem e_rowOf_1:
 ∀(σ:Store) (sz:Nat),rowOf σ sz (AV.lit (Value.slice none 0 0))=some (none,[],0):=by
 intros;apply nr;first|rfl|(apply Go.AL.rowOf.eq_1<;>assumption)
@[simp] theorem e_rowOf_2:
 ∀(σ:Store) (sz o n cap:Nat),
  rowOf σ sz (AV.lit (Value.slice (some {block:=o,off:=0}) n cap))=
   match σ ↑o with
   |some cs=>
    if List.length cs=cap*sz∧n≤cap∧cap≤maxLen then some (some o,List.take (n*sz) cs,n) else none
   |none=>none:=by
 intros;apply nr;first|rfl|(apply Go.AL.rowOf.eq_2<;>assumption)
@[simp] theorem e_rowOf_3:
 ∀(σ:Store) (sz:Nat) (x:AV),
  (x=AV.lit (Value.slice none 0 0)→False)→
   (∀(o n cap:Nat),x=AV.lit (Value.slice (some {block:=o,off:=0}) n cap)→False)→rowOf σ sz x=none:=by
 intros;apply nr;first|rfl|(apply Go.AL.rowOf.eq_3<;>assumption)
@[simp] theorem e_srcOf_1:
 ∀(σ:Store) (sz:Nat) (own:Bool) (sz':Nat) (ws:List AV),
  srcOf σ sz (AV.list own sz' ws)=if sz'=sz then some (none,List.map AV.drop1 (flat ws),List.length ws) else none:=by
 intros;apply nr;first|rfl|(apply Go.AL.srcOf.eq_1<;>assumption)
@[simp] theorem e_srcOf_2:
 ∀(σ:Store) (sz:Nat),srcOf σ sz (AV.lit (Value.slice none 0 0))=some (none,[],0):=by
 intros;apply nr;first|rfl|(apply Go.AL.srcOf.eq_2<;>assumption)
@[simp] theorem e_srcOf_3:
 ∀(σ:Store) (sz q k cap:Nat),
  srcOf σ sz (AV.lit (Value.slice (some {block:=q,off:=0}) k cap))=
   match σ ↑q with
   |some ds=>if k*sz≤List.length ds then some (some q,List.take (k*sz) ds,k) else none
   |none=>none:=by
 intros;apply nr;first|rfl|(apply Go.AL.srcOf.eq_3<;>assumption)
@[simp] theorem e_srcOf_4:
 ∀(σ:Store) (sz:Nat) (x:AV),
  (∀(own:Bool) (sz':Nat) (ws:List AV),x=AV.list own sz' ws→False)→
   (x=AV.lit (Value.slice none 0 0)→False)→
    (∀(q k cap:Nat),x=AV.lit (Value.slice (some {block:=q,off:=0}) k cap)→False)→srcOf σ sz x=none:=by
 intros;apply nr;first|rfl|(apply Go.AL.srcOf.eq_4<;>assumption)
@[simp] theorem e_copyDst_1:
 ∀(σ:Store) (p off n cap:Nat),
  copyDst σ (AV.lit (Value.slice (some {block:=p,off:=off}) n cap))=
   Option.map (fun cs=>(p,off,n,cs)) (σ ↑p):=by
 intros;apply nr;first|rfl|(apply Go.AL.copyDst.eq_1<;>assumption)
@[simp] theorem e_copyDst_2:
 ∀(σ:Store) (x:AV),
  (∀(p off n cap:Nat),x=AV.lit (Value.slice (some {block:=p,off:=off}) n cap)→False)→copyDst σ x=none:=by
 intros;apply nr;first|rfl|(apply Go.AL.copyDst.eq_2<;>assumption)
@[simp] theorem e_copySrc_1:
 ∀(σ:Store) (own:Bool) (sz:Nat) (vs:List AV),
  copySrc σ (AV.list own sz vs)=if sz=1 then some (flat vs) else none:=by
 intros;apply nr;first|rfl|(apply Go.AL.copySrc.eq_1<;>assumption)
@[simp] theorem e_copySrc_2:
 ∀(σ:Store),copySrc σ (AV.lit (Value.slice none 0 0))=some []:=by
 intros;apply nr;first|rfl|(apply Go.AL.copySrc.eq_2<;>assumption)
@[simp] theorem e_copySrc_3:
 ∀(σ:Store) (q off k cap:Nat),
  copySrc σ (AV.lit (Value.slice (some {block:=q,off:=off}) k cap))=
   Option.bind (σ ↑q) fun ds=>if off+k≤List.length ds then some (List.take k (List.drop off ds)) else none:=by
 intros;apply nr;first|rfl|(apply Go.AL.copySrc.eq_3<;>assumption)
@[simp] theorem e_copySrc_4:
 ∀(σ:Store) (y:AV),
  (∀(own:Bool) (sz:Nat) (vs:List AV),y=AV.list own sz vs→False)→
   (y=AV.lit (Value.slice none 0 0)→False)→
    (∀(q off k cap:Nat),y=AV.lit (Value.slice (some {block:=q,off:=off}) k cap)→False)→
     copySrc σ y=none:=by
 intros;apply nr;first|rfl|(apply Go.AL.copySrc.eq_4<;>assumption)
@[simp] theorem e_aNilTest_1:
 ∀(P:Program) (neg:Bool) (t:TypeId) (A:Slots) (σ:Store) (K:AV→Slots→Store→Prop) (own:Bool)
  (sz:Nat) (vs:List AV) (val:TypeId),
  tElem P t=some val→
   aNilTest P neg t (AV.list own sz vs) A σ K=
    ∀(r:Bool),(r=true→vs=[])→K (AV.lit (Value.bool (r !=neg))) A σ:=by
 intros;apply nr;first|rfl|(apply Go.AL.aNilTest.eq_1<;>assumption)
@[simp] theorem e_aNilTest_2:
 ∀(P:Program) (neg:Bool) (t:TypeId) (A:Slots) (σ:Store) (K:AV→Slots→Store→Prop) (b:Option Addr)
  (len cap:Nat) (val:TypeId),
  tElem P t=some val→
   aNilTest P neg t (AV.lit (Value.slice b len cap)) A σ K=K (AV.lit (Value.bool (Option.isNone b !=neg))) A σ:=by
 intros;apply nr;first|rfl|(apply Go.AL.aNilTest.eq_2<;>assumption)
@[simp] theorem e_aNilTest_3:
 ∀(P:Program) (neg:Bool) (t:TypeId) (A:Slots) (σ:Store) (K:AV→Slots→Store→Prop) (p n:Nat)
  (val:TypeId),tElem P t=some val→aNilTest P neg t (AV.row p n) A σ K=K (AV.lit (Value.bool neg)) A σ:=by
 intros;apply nr;first|rfl|(apply Go.AL.aNilTest.eq_3<;>assumption)
@[simp] theorem e_aNilTest_4:
 ∀(P:Program) (neg:Bool) (t:TypeId) (A:Slots) (σ:Store) (K:AV→Slots→Store→Prop) (a:AV),
  (∀(val:TypeId) (own:Bool) (sz:Nat) (vs:List AV),tElem P t=some val→a=AV.list own sz vs→False)→
   (∀(val:TypeId) (b:Option Addr) (len cap:Nat),
     tElem P t=some val→a=AV.lit (Value.slice b len cap)→False)→
    (∀(val:TypeId) (p n:Nat),tElem P t=some val→a=AV.row p n→False)→aNilTest P neg t a A σ K=False:=by
 intros;apply nr;first|rfl|(apply Go.AL.aNilTest.eq_4<;>assumption)
@[simp] theorem e_isNilConst_1:
 isNilConst (Operand.const (Value.slice none 0 0))=true:=by
 intros;apply nr;first|rfl|(apply Go.AL.isNilConst.eq_1<;>assumption)
@[simp] theorem e_isNilConst_2:
 ∀(x:Operand),(x=Operand.const (Value.slice none 0 0)→False)→isNilConst x=false:=by
 intros;apply nr;first|rfl|(apply Go.AL.isNilConst.eq_2<;>assumption)
@[simp] theorem e_aConvSame_1:
 ∀(P:Program) (own:Bool) (src dst:TypeId) (x:Operand) (A:Slots) (σ:Store)
  (K:AV→Slots→Store→Prop),
  aConvSame P own src dst x A σ K=
   (src=dst∧
    Option.bind (tElem P dst) (tInt P)=some IntKind.u8∧
     takeA A x fun v A'=>
      match v with
      |AV.list true 1 (v::vs)=>K (AV.list own 1 (v::vs)) A' σ
      |x=>False):=by
 intros;apply nr;first|rfl|(apply Go.AL.aConvSame.eq_1<;>assumption)
@[simp] theorem e_srcA_1:
 ∀(sz:Nat) (own:Bool) (sz':Nat) (vs:List AV),srcA sz (AV.list own sz' vs)=if sz'=sz then some vs else none:=by
 intros;apply nr;first|rfl|(apply Go.AL.srcA.eq_1<;>assumption)
@[simp] theorem e_srcA_2:
 ∀(sz:Nat),srcA sz (AV.lit (Value.slice none 0 0))=some []:=by
 intros;apply nr;first|rfl|(apply Go.AL.srcA.eq_2<;>assumption)
@[simp] theorem e_srcA_3:
 ∀(sz:Nat) (v:AV),
  (∀(own:Bool) (sz':Nat) (vs:List AV),v=AV.list own sz' vs→False)→
   (v=AV.lit (Value.slice none 0 0)→False)→srcA sz v=none:=by
 intros;apply nr;first|rfl|(apply Go.AL.srcA.eq_3<;>assumption)
@[simp] theorem e_aLoad_1:
 ∀(P:Program) (σ:Store) (t:TypeId) (a:AV),
  aLoad P σ t a=
   match tAgg P t,tSize P t with
   |some b,some s=>
    match a with
    |AV.lit (Value.pointer (some {block:=o,off:=off,spot:=none}))=>
     match σ ↑o with
     |some cs=>if off+s≤List.length cs then mkAV b (List.take s (List.drop off cs)) else none
     |none=>none
    |AV.fptr cs=>if s≤List.length cs then mkAV b (List.take s cs) else none
    |x=>none
   |x,x_1=>none:=by
 intros;apply nr;first|rfl|(apply Go.AL.aLoad.eq_1<;>assumption)
@[simp] theorem e_aFieldAddr_1:
 ∀(P:Program) (s:TypeId) (f:Nat) (a:AV),
  aFieldAddr P s f a=
   match tField P s f with
   |some (off,ft)=>
    match tSize P ft with
    |some (Nat.succ n)=>
     match a with
     |AV.lit (Value.pointer (some {block:=o,off:=i,spot:=none}))=>
      some (AV.lit (Value.pointer (some {block:=o,off:=i+off})))
     |AV.fptr cs=>some (AV.fptr (List.drop off cs))
     |x=>none
    |x=>none
   |none=>none:=by
 intros;apply nr;first|rfl|(apply Go.AL.aFieldAddr.eq_1<;>assumption)
@[simp] theorem e_aIndexAddr_1:
 ∀(P:Program) (t:TypeId) (a:AV) (k:IntKind) (n:Int),
  aIndexAddr P t a (AV.lit (Value.int k n))=
   if 0≤n then
    match tElem P t with
    |some e=>
     match tSize P e with
     |some s=>
      match a with
      |AV.list own sz vs=>if sz=s then Option.map (fun v=>AV.fptr (AV.cells v)) vs[Int.toNat n]? else none
      |AV.lit (Value.slice (some {block:=o,off:=off,spot:=none}) len cap)=>
       if n<↑len then some (AV.lit (Value.pointer (some {block:=o,off:=off+Int.toNat n*s}))) else none
      |AV.row o len=>
       if n<↑len then some (AV.lit (Value.pointer (some {block:=o,off:=Int.toNat n*s}))) else none
      |x=>none
     |none=>none
    |none=>
     match tArr P t with
     |some (n_1,e)=>
      match tSize P e with
      |some s=>
       if n<↑n_1 then
        match a with
        |AV.lit (Value.pointer (some {block:=o,off:=off,spot:=none}))=>
         some (AV.lit (Value.pointer (some {block:=o,off:=off+Int.toNat n*s})))
        |AV.fptr cs=>some (AV.fptr (List.drop (Int.toNat n*s) cs))
        |x=>none
       else none
      |none=>none
     |none=>none
   else none:=by
 intros;apply nr;first|rfl|(apply Go.AL.aIndexAddr.eq_1<;>assumption)
@[simp] theorem e_aIndexAddr_2:
 ∀(P:Program) (t:TypeId) (a ix:AV),
  (∀(k:IntKind) (n:Int),ix=AV.lit (Value.int k n)→False)→aIndexAddr P t a ix=none:=by
 intros;apply nr;first|rfl|(apply Go.AL.aIndexAddr.eq_2<;>assumption)
@[simp] theorem e_aBin_1:
 ∀(P:Program) (op:BinOp) (t:TypeId) (cs ds:List AV),aBin P op t (AV.agg cs) (AV.agg ds)=aggBin P op t cs ds:=by
 intros;apply nr;first|rfl|(apply Go.AL.aBin.eq_1<;>assumption)
@[simp] theorem e_aBin_2:
 ∀(P:Program) (op:BinOp) (t:TypeId) (x y:Value),
  aBin P op t (AV.lit x) (AV.lit y)=
   match pureBin op x y with
   |some v=>some (AV.lit v)
   |none=>nilBin P op t (AV.lit x) (AV.lit y):=by
 intros;apply nr;first|rfl|(apply Go.AL.aBin.eq_2<;>assumption)
@[simp] theorem e_aBin_3:
 ∀(P:Program) (op:BinOp) (t:TypeId) (a b:AV),
  (∀(cs ds:List AV),a=AV.agg cs→b=AV.agg ds→False)→
   (∀(x y:Value),a=AV.lit x→b=AV.lit y→False)→aBin P op t a b=nilBin P op t a b:=by
 intros;apply nr;first|rfl|(apply Go.AL.aBin.eq_3<;>assumption)
@[simp] theorem e_aggBin_1:
 ∀(P:Program) (op:BinOp) (t:TypeId) (cs ds:List AV),
  aggBin P op t cs ds=
   match tEq P t with
   |some ls=>
    if List.length cs=List.length ls∧List.length ds=List.length ls then
     match op with
     |BinOp.eql=>Option.map (fun r=>AV.lit (Value.bool r)) (eqLits ls cs ds)
     |BinOp.neq=>Option.map (fun r=>AV.lit (Value.bool !r)) (eqLits ls cs ds)
     |x=>none
    else none
   |none=>none:=by
 intros;apply nr;first|rfl|(apply Go.AL.aggBin.eq_1<;>assumption)
@[simp] theorem e_eqLits_1:
 ∀(x x_1:List AV),eqLits [] x x_1=some true:=by
 intros;apply nr;first|rfl|(apply Go.AL.eqLits.eq_1<;>assumption)
@[simp] theorem e_eqLits_2:
 ∀(k:Leaf) (ls:List Leaf) (x_3:AV) (xs:List AV) (y:AV) (ys:List AV),
  eqLits (k::ls) (x_3::xs) (y::ys)=
   match eqLeaf k x_3 y,eqLits ls xs ys with
   |some a,some b=>some (a&&b)
   |x,x_1=>none:=by
 intros;apply nr;first|rfl|(apply Go.AL.eqLits.eq_2<;>assumption)
@[simp] theorem e_eqLits_3:
 ∀(x:List Leaf) (x_1 x_2:List AV),
  (x=[]→False)→
   (∀(k:Leaf) (ls:List Leaf) (x_3:AV) (xs:List AV) (y:AV) (ys:List AV),
     x=k::ls→x_1=x_3::xs→x_2=y::ys→False)→
    eqLits x x_1 x_2=none:=by
 intros;apply nr;first|rfl|(apply Go.AL.eqLits.eq_3<;>assumption)
@[simp] theorem e_eqLeaf_1:
 ∀(k:IntKind) (a:Int) (k':IntKind) (b:Int),
  eqLeaf Leaf.int (AV.lit (Value.int k a)) (AV.lit (Value.int k' b))=if k=k' then some (a==b) else none:=by
 intros;apply nr;first|rfl|(apply Go.AL.eqLeaf.eq_1<;>assumption)
@[simp] theorem e_eqLeaf_2:
 ∀(a b:Bool),eqLeaf Leaf.bool (AV.lit (Value.bool a)) (AV.lit (Value.bool b))=some (a==b):=by
 intros;apply nr;first|rfl|(apply Go.AL.eqLeaf.eq_2<;>assumption)
@[simp] theorem e_eqLeaf_3:
 ∀(a b:ByteArray),
  eqLeaf Leaf.str (AV.lit (Value.string a)) (AV.lit (Value.string b))=some (ByteArray.toList a==ByteArray.toList b):=by
 intros;apply nr;first|rfl|(apply Go.AL.eqLeaf.eq_3<;>assumption)
@[simp] theorem e_eqLeaf_4:
 ∀(x:Leaf) (x_1 x_2:AV),
  (∀(k:IntKind) (a:Int) (k':IntKind) (b:Int),
    x=Leaf.int→x_1=AV.lit (Value.int k a)→x_2=AV.lit (Value.int k' b)→False)→
   (∀(a b:Bool),x=Leaf.bool→x_1=AV.lit (Value.bool a)→x_2=AV.lit (Value.bool b)→False)→
    (∀(a b:ByteArray),x=Leaf.str→x_1=AV.lit (Value.string a)→x_2=AV.lit (Value.string b)→False)→
     eqLeaf x x_1 x_2=none:=by
 intros;apply nr;first|rfl|(apply Go.AL.eqLeaf.eq_4<;>assumption)
@[simp] theorem e_nilBin_1:
 ∀(P:Program) (t:TypeId) (a b:AV),
  nilBin P BinOp.eql t a b=Option.map (fun r=>AV.lit (Value.bool r)) (eqNil P t a b):=by
 intros;apply nr;first|rfl|(apply Go.AL.nilBin.eq_1<;>assumption)
@[simp] theorem e_nilBin_2:
 ∀(P:Program) (t:TypeId) (a b:AV),
  nilBin P BinOp.neq t a b=Option.map (fun r=>AV.lit (Value.bool !r)) (eqNil P t a b):=by
 intros;apply nr;first|rfl|(apply Go.AL.nilBin.eq_2<;>assumption)
@[simp] theorem e_nilBin_3:
 ∀(P:Program) (op:BinOp) (t:TypeId) (a b:AV),
  (op=BinOp.eql→False)→(op=BinOp.neq→False)→nilBin P op t a b=none:=by
 intros;apply nr;first|rfl|(apply Go.AL.nilBin.eq_3<;>assumption)
@[simp] theorem e_pureBin_1:
 ∀(k:IntKind) (x:Int) (k_1:IntKind) (y:Int),
  pureBin BinOp.shl (Value.int k x) (Value.int k_1 y)=
   if y<0 then none else some (Value.int k (IntKind.wrap k (x*2^min (Int.toNat y) (IntKind.bits k)))):=by
 intros;apply nr;first|rfl|(apply Go.AL.pureBin.eq_1<;>assumption)
@[simp] theorem e_pureBin_2:
 ∀(k:IntKind) (x:Int) (k_1:IntKind) (y:Int),
  pureBin BinOp.shr (Value.int k x) (Value.int k_1 y)=
   if y<0 then none else some (Value.int k (Int.fdiv x (2^min (Int.toNat y) (IntKind.bits k)))):=by
 intros;apply nr;first|rfl|(apply Go.AL.pureBin.eq_2<;>assumption)
@[simp] theorem e_pureBin_3:
 ∀(k:IntKind) (x:Int) (k':IntKind) (y:Int),
  pureBin BinOp.add (Value.int k x) (Value.int k' y)=
   if k=k' then some (Value.int k (IntKind.wrap k (x+y))) else none:=by
 intros;apply nr;first|rfl|(apply Go.AL.pureBin.eq_3<;>assumption)
@[simp] theorem e_pureBin_4:
 ∀(k:IntKind) (x:Int) (k':IntKind) (y:Int),
  pureBin BinOp.sub (Value.int k x) (Value.int k' y)=
   if k=k' then some (Value.int k (IntKind.wrap k (x-y))) else none:=by
 intros;apply nr;first|rfl|(apply Go.AL.pureBin.eq_4<;>assumption)
@[simp] theorem e_pureBin_5:
 ∀(k:IntKind) (x:Int) (k':IntKind) (y:Int),
  pureBin BinOp.mul (Value.int k x) (Value.int k' y)=
   if k=k' then some (Value.int k (IntKind.wrap k (x*y))) else none:=by
 intros;apply nr;first|rfl|(apply Go.AL.pureBin.eq_5<;>assumption)
@[simp] theorem e_pureBin_6:
 ∀(k:IntKind) (x:Int) (k':IntKind) (y:Int),
  pureBin BinOp.quo (Value.int k x) (Value.int k' y)=
   if k=k' then if y=0 then none else some (Value.int k (IntKind.wrap k (Int.tdiv x y))) else none:=by
 intros;apply nr;first|rfl|(apply Go.AL.pureBin.eq_6<;>assumption)
@[simp] theorem e_pureBin_7:
 ∀(k:IntKind) (x:Int) (k':IntKind) (y:Int),
  pureBin BinOp.rem (Value.int k x) (Value.int k' y)=
   if k=k' then if y=0 then none else some (Value.int k (Int.tmod x y)) else none:=by
 intros;apply nr;first|rfl|(apply Go.AL.pureBin.eq_7<;>assumption)
@[simp] theorem e_pureBin_8:
 ∀(k:IntKind) (x:Int) (k':IntKind) (y:Int),
  pureBin BinOp.and (Value.int k x) (Value.int k' y)=
   if k=k' then
    some
     (Value.int k
      (IntKind.wrap k ↑(BitVec.toNat (BitVec.ofInt (IntKind.bits k) x&&&BitVec.ofInt (IntKind.bits k) y))))
   else none:=by
 intros;apply nr;first|rfl|(apply Go.AL.pureBin.eq_8<;>assumption)
@[simp] theorem e_pureBin_9:
 ∀(k:IntKind) (x:Int) (k':IntKind) (y:Int),
  pureBin BinOp.or (Value.int k x) (Value.int k' y)=
   if k=k' then
    some
     (Value.int k
      (IntKind.wrap k ↑(BitVec.toNat (BitVec.ofInt (IntKind.bits k) x|||BitVec.ofInt (IntKind.bits k) y))))
   else none:=by
 intros;apply nr;first|rfl|(apply Go.AL.pureBin.eq_9<;>assumption)
@[simp] theorem e_pureBin_10:
 ∀(k:IntKind) (x:Int) (k':IntKind) (y:Int),
  pureBin BinOp.xor (Value.int k x) (Value.int k' y)=
   if k=k' then
    some
     (Value.int k
      (IntKind.wrap k ↑(BitVec.toNat (BitVec.ofInt (IntKind.bits k) x^^^BitVec.ofInt (IntKind.bits k) y))))
   else none:=by
 intros;apply nr;first|rfl|(apply Go.AL.pureBin.eq_10<;>assumption)
@[simp] theorem e_pureBin_11:
 ∀(k:IntKind) (x:Int) (k':IntKind) (y:Int),
  pureBin BinOp.andNot (Value.int k x) (Value.int k' y)=
   if k=k' then
    some
     (Value.int k
      (IntKind.wrap k ↑(BitVec.toNat (BitVec.ofInt (IntKind.bits k) x&&& ~~~BitVec.ofInt (IntKind.bits k) y))))
   else none:=by
 intros;apply nr;first|rfl|(apply Go.AL.pureBin.eq_11<;>assumption)
@[simp] theorem e_pureBin_12:
 ∀(k:IntKind) (x:Int) (k':IntKind) (y:Int),
  pureBin BinOp.eql (Value.int k x) (Value.int k' y)=if k=k' then some (Value.bool (x==y)) else none:=by
 intros;apply nr;first|rfl|(apply Go.AL.pureBin.eq_12<;>assumption)
@[simp] theorem e_pureBin_13:
 ∀(k:IntKind) (x:Int) (k':IntKind) (y:Int),
  pureBin BinOp.neq (Value.int k x) (Value.int k' y)=if k=k' then some (Value.bool (x !=y)) else none:=by
 intros;apply nr;first|rfl|(apply Go.AL.pureBin.eq_13<;>assumption)
@[simp] theorem e_pureBin_14:
 ∀(k:IntKind) (x:Int) (k':IntKind) (y:Int),
  pureBin BinOp.lss (Value.int k x) (Value.int k' y)=if k=k' then some (Value.bool (decide (x<y))) else none:=by
 intros;apply nr;first|rfl|(apply Go.AL.pureBin.eq_14<;>assumption)
@[simp] theorem e_pureBin_15:
 ∀(k:IntKind) (x:Int) (k':IntKind) (y:Int),
  pureBin BinOp.leq (Value.int k x) (Value.int k' y)=if k=k' then some (Value.bool (decide (x≤y))) else none:=by
 intros;apply nr;first|rfl|(apply Go.AL.pureBin.eq_15<;>assumption)
@[simp] theorem e_pureBin_16:
 ∀(k:IntKind) (x:Int) (k':IntKind) (y:Int),
  pureBin BinOp.gtr (Value.int k x) (Value.int k' y)=if k=k' then some (Value.bool (decide (x>y))) else none:=by
 intros;apply nr;first|rfl|(apply Go.AL.pureBin.eq_16<;>assumption)
@[simp] theorem e_pureBin_17:
 ∀(k:IntKind) (x:Int) (k':IntKind) (y:Int),
  pureBin BinOp.geq (Value.int k x) (Value.int k' y)=if k=k' then some (Value.bool (decide (x≥y))) else none:=by
 intros;apply nr;first|rfl|(apply Go.AL.pureBin.eq_17<;>assumption)
@[simp] theorem e_pureBin_18:
 ∀(x y:ByteArray),
  pureBin BinOp.eql (Value.string x) (Value.string y)=some (Value.bool (ByteArray.toList x==ByteArray.toList y)):=by
 intros;apply nr;first|rfl|(apply Go.AL.pureBin.eq_18<;>assumption)
@[simp] theorem e_pureBin_19:
 ∀(x y:ByteArray),
  pureBin BinOp.neq (Value.string x) (Value.string y)=some (Value.bool !ByteArray.toList x==ByteArray.toList y):=by
 intros;apply nr;first|rfl|(apply Go.AL.pureBin.eq_19<;>assumption)
@[simp] theorem e_pureBin_20:
 ∀(x y:ByteArray),
  pureBin BinOp.lss (Value.string x) (Value.string y)=
   some (Value.bool (Op.bytesLess (ByteArray.toList x) (ByteArray.toList y))):=by
 intros;apply nr;first|rfl|(apply Go.AL.pureBin.eq_20<;>assumption)
@[simp] theorem e_pureBin_21:
 ∀(x y:ByteArray),
  pureBin BinOp.leq (Value.string x) (Value.string y)=
   some
    (Value.bool (Op.bytesLess (ByteArray.toList x) (ByteArray.toList y)||ByteArray.toList x==ByteArray.toList y)):=by
 intros;apply nr;first|rfl|(apply Go.AL.pureBin.eq_21<;>assumption)
@[simp] theorem e_pureBin_22:
 ∀(x y:ByteArray),
  pureBin BinOp.gtr (Value.string x) (Value.string y)=
   some
    (Value.bool !(Op.bytesLess (ByteArray.toList x) (ByteArray.toList y)||ByteArray.toList x==ByteArray.toList y)):=by
 intros;apply nr;first|rfl|(apply Go.AL.pureBin.eq_22<;>assumption)
@[simp] theorem e_pureBin_23:
 ∀(x y:ByteArray),
  pureBin BinOp.geq (Value.string x) (Value.string y)=
   some (Value.bool !Op.bytesLess (ByteArray.toList x) (ByteArray.toList y)):=by
 intros;apply nr;first|rfl|(apply Go.AL.pureBin.eq_23<;>assumption)
@[simp] theorem e_pureBin_24:
 ∀(x y:ByteArray),
  pureBin BinOp.add (Value.string x) (Value.string y)=
   if ((ByteArray.size x+ByteArray.size y:Nat):Int)>9223372036854775807 then none else some (Value.string (x++y)):=by
 intros;apply nr;first|rfl|(apply Go.AL.pureBin.eq_24<;>assumption)
@[simp] theorem e_pureBin_25:
 ∀(op:BinOp) (a b:Value),
  (∀(k:IntKind) (x:Int) (k_1:IntKind) (y:Int),
    op=BinOp.shl→a=Value.int k x→b=Value.int k_1 y→False)→
   (∀(k:IntKind) (x:Int) (k_1:IntKind) (y:Int),
     op=BinOp.shr→a=Value.int k x→b=Value.int k_1 y→False)→
    (∀(k:IntKind) (x:Int) (k':IntKind) (y:Int),
      op=BinOp.add→a=Value.int k x→b=Value.int k' y→False)→
     (∀(k:IntKind) (x:Int) (k':IntKind) (y:Int),
       op=BinOp.sub→a=Value.int k x→b=Value.int k' y→False)→
      (∀(k:IntKind) (x:Int) (k':IntKind) (y:Int),
        op=BinOp.mul→a=Value.int k x→b=Value.int k' y→False)→
       (∀(k:IntKind) (x:Int) (k':IntKind) (y:Int),
         op=BinOp.quo→a=Value.int k x→b=Value.int k' y→False)→
        (∀(k:IntKind) (x:Int) (k':IntKind) (y:Int),
          op=BinOp.rem→a=Value.int k x→b=Value.int k' y→False)→
         (∀(k:IntKind) (x:Int) (k':IntKind) (y:Int),
           op=BinOp.and→a=Value.int k x→b=Value.int k' y→False)→
          (∀(k:IntKind) (x:Int) (k':IntKind) (y:Int),
            op=BinOp.or→a=Value.int k x→b=Value.int k' y→False)→
           (∀(k:IntKind) (x:Int) (k':IntKind) (y:Int),
             op=BinOp.xor→a=Value.int k x→b=Value.int k' y→False)→
            (∀(k:IntKind) (x:Int) (k':IntKind) (y:Int),
              op=BinOp.andNot→a=Value.int k x→b=Value.int k' y→False)→
             (∀(k:IntKind) (x:Int) (k':IntKind) (y:Int),
               op=BinOp.eql→a=Value.int k x→b=Value.int k' y→False)→
              (∀(k:IntKind) (x:Int) (k':IntKind) (y:Int),
                op=BinOp.neq→a=Value.int k x→b=Value.int k' y→False)→
               (∀(k:IntKind) (x:Int) (k':IntKind) (y:Int),
                 op=BinOp.lss→a=Value.int k x→b=Value.int k' y→False)→
                (∀(k:IntKind) (x:Int) (k':IntKind) (y:Int),
                  op=BinOp.leq→a=Value.int k x→b=Value.int k' y→False)→
                 (∀(k:IntKind) (x:Int) (k':IntKind) (y:Int),
                   op=BinOp.gtr→a=Value.int k x→b=Value.int k' y→False)→
                  (∀(k:IntKind) (x:Int) (k':IntKind) (y:Int),
                    op=BinOp.geq→a=Value.int k x→b=Value.int k' y→False)→
                   (∀(x y:ByteArray),
                     op=BinOp.eql→a=Value.string x→b=Value.string y→False)→
                    (∀(x y:ByteArray),
                      op=BinOp.neq→a=Value.string x→b=Value.string y→False)→
                     (∀(x y:ByteArray),
                       op=BinOp.lss→a=Value.string x→b=Value.string y→False)→
                      (∀(x y:ByteArray),
                        op=BinOp.leq→a=Value.string x→b=Value.string y→False)→
                       (∀(x y:ByteArray),
                         op=BinOp.gtr→a=Value.string x→b=Value.string y→False)→
                        (∀(x y:ByteArray),
                          op=BinOp.geq→a=Value.string x→b=Value.string y→False)→
                         (∀(x y:ByteArray),
                           op=BinOp.add→a=Value.string x→b=Value.string y→False)→
                          pureBin op a b=none:=by
 intros;apply nr;first|rfl|(apply Go.AL.pureBin.eq_25<;>assumption)
@[simp] theorem e_pureUn_1:
 ∀(k:IntKind) (n:Int),pureUn UnOp.neg (Value.int k n)=some (Value.int k (IntKind.wrap k (0-n))):=by
 intros;apply nr;first|rfl|(apply Go.AL.pureUn.eq_1<;>assumption)
@[simp] theorem e_pureUn_2:
 ∀(k:IntKind) (n:Int),
  pureUn UnOp.xor (Value.int k n)=
   some
    (Value.int k
     (IntKind.wrap k
      ↑(BitVec.toNat
        (BitVec.ofInt (IntKind.bits k) (if IntKind.signed k=true then -1 else IntKind.max k)^^^
         BitVec.ofInt (IntKind.bits k) n)))):=by
 intros;apply nr;first|rfl|(apply Go.AL.pureUn.eq_2<;>assumption)
@[simp] theorem e_pureUn_3:
 ∀(b:Bool),pureUn UnOp.not (Value.bool b)=some (Value.bool !b):=by
 intros;apply nr;first|rfl|(apply Go.AL.pureUn.eq_3<;>assumption)
@[simp] theorem e_pureUn_4:
 ∀(op:UnOp) (a:Value),
  (∀(k:IntKind) (n:Int),op=UnOp.neg→a=Value.int k n→False)→
   (∀(k:IntKind) (n:Int),op=UnOp.xor→a=Value.int k n→False)→
    (∀(b:Bool),op=UnOp.not→a=Value.bool b→False)→pureUn op a=none:=by
 intros;apply nr;first|rfl|(apply Go.AL.pureUn.eq_4<;>assumption)
@[simp] theorem e_eqNil_1:
 ∀(P:Program) (t:TypeId) (b_2:Option Addr) (elem:TypeId),
  Program.underlying P t=some (TypeDesc.pointer elem)→
   eqNil P t (AV.lit (Value.pointer none)) (AV.lit (Value.pointer b_2))=some (Option.isNone b_2):=by
 intros;apply nr;first|rfl|(apply Go.AL.eqNil.eq_1<;>assumption)
@[simp] theorem e_eqNil_2:
 ∀(P:Program) (t:TypeId) (val:Addr) (elem:TypeId),
  Program.underlying P t=some (TypeDesc.pointer elem)→
   eqNil P t (AV.lit (Value.pointer (some val))) (AV.lit (Value.pointer none))=some false:=by
 intros;apply nr;first|rfl|(apply Go.AL.eqNil.eq_2<;>assumption)
@[simp] theorem e_eqNil_3:
 ∀(P:Program) (t:TypeId) (cs:List AV) (elem:TypeId),
  Program.underlying P t=some (TypeDesc.pointer elem)→
   eqNil P t (AV.fptr cs) (AV.lit (Value.pointer none))=some false:=by
 intros;apply nr;first|rfl|(apply Go.AL.eqNil.eq_3<;>assumption)
@[simp] theorem e_eqNil_4:
 ∀(P:Program) (t:TypeId) (x_1 y:Bool),
  Program.underlying P t=some TypeDesc.bool→
   eqNil P t (AV.lit (Value.bool x_1)) (AV.lit (Value.bool y))=some (x_1==y):=by
 intros;apply nr;first|rfl|(apply Go.AL.eqNil.eq_4<;>assumption)
@[simp] theorem e_eqNil_5:
 ∀(P:Program) (t:TypeId) (own:Bool) (sz:Nat) (head:AV) (tail:List AV) (elem:TypeId),
  Program.underlying P t=some (TypeDesc.slice elem)→
   eqNil P t (AV.list own sz (head::tail)) (AV.lit (Value.slice none 0 0))=some false:=by
 intros;apply nr;first|rfl|(apply Go.AL.eqNil.eq_5<;>assumption)
@[simp] theorem e_eqNil_6:
 ∀(P:Program) (t:TypeId) (val:Addr) (len cap len_1 cap_1:Nat) (elem:TypeId),
  Program.underlying P t=some (TypeDesc.slice elem)→
   eqNil P t (AV.lit (Value.slice (some val) len cap)) (AV.lit (Value.slice none len_1 cap_1))=some false:=by
 intros;apply nr;first|rfl|(apply Go.AL.eqNil.eq_6<;>assumption)
@[simp] theorem e_eqNil_7:
 ∀(P:Program) (t:TypeId) (fn:Fn) (first captured:List AV) (params results:Array TypeId) (variadic:Bool),
  Program.underlying P t=some (TypeDesc.func params results variadic)→
   eqNil P t (AV.func fn first captured) (AV.lit Value.nilFunc)=some false:=by
 intros;apply nr;first|rfl|(apply Go.AL.eqNil.eq_7<;>assumption)
@[simp] theorem e_eqNil_8:
 ∀(P:Program) (t:TypeId) (params results:Array TypeId) (variadic:Bool),
  Program.underlying P t=some (TypeDesc.func params results variadic)→
   eqNil P t (AV.lit Value.nilFunc) (AV.lit Value.nilFunc)=some true:=by
 intros;apply nr;first|rfl|(apply Go.AL.eqNil.eq_8<;>assumption)
@[simp] theorem e_eqNil_9:
 ∀(P:Program) (t t_1:TypeId) (v:AV) (methods:Array (String×TypeId)),
  Program.underlying P t=some (TypeDesc.interface methods)→
   eqNil P t (AV.iface t_1 v) (AV.lit Value.nilIface)=some false:=by
 intros;apply nr;first|rfl|(apply Go.AL.eqNil.eq_9<;>assumption)
@[simp] theorem e_eqNil_10:
 ∀(P:Program) (t:TypeId) (a b:AV),
  (∀(elem:TypeId) (b_1:Option Addr),
    Program.underlying P t=some (TypeDesc.pointer elem)→
     a=AV.lit (Value.pointer none)→b=AV.lit (Value.pointer b_1)→False)→
   (∀(elem:TypeId) (val:Addr),
     Program.underlying P t=some (TypeDesc.pointer elem)→
      a=AV.lit (Value.pointer (some val))→b=AV.lit (Value.pointer none)→False)→
    (∀(elem:TypeId) (cs:List AV),
      Program.underlying P t=some (TypeDesc.pointer elem)→
       a=AV.fptr cs→b=AV.lit (Value.pointer none)→False)→
     (∀(x y:Bool),
       Program.underlying P t=some TypeDesc.bool→
        a=AV.lit (Value.bool x)→b=AV.lit (Value.bool y)→False)→
      (∀(elem:TypeId) (own:Bool) (sz:Nat) (head:AV) (tail:List AV),
        Program.underlying P t=some (TypeDesc.slice elem)→
         a=AV.list own sz (head::tail)→b=AV.lit (Value.slice none 0 0)→False)→
       (∀(elem:TypeId) (val:Addr) (len cap len_1 cap_1:Nat),
         Program.underlying P t=some (TypeDesc.slice elem)→
          a=AV.lit (Value.slice (some val) len cap)→b=AV.lit (Value.slice none len_1 cap_1)→False)→
        (∀(params results:Array TypeId) (variadic:Bool) (fn:Fn) (first captured:List AV),
          Program.underlying P t=some (TypeDesc.func params results variadic)→
           a=AV.func fn first captured→b=AV.lit Value.nilFunc→False)→
         (∀(params results:Array TypeId) (variadic:Bool),
           Program.underlying P t=some (TypeDesc.func params results variadic)→
            a=AV.lit Value.nilFunc→b=AV.lit Value.nilFunc→False)→
          (∀(methods:Array (String×TypeId)) (t_1:TypeId) (v:AV),
            Program.underlying P t=some (TypeDesc.interface methods)→
             a=AV.iface t_1 v→b=AV.lit Value.nilIface→False)→
           eqNil P t a b=none:=by
 intros;apply nr;first|rfl|(apply Go.AL.eqNil.eq_10<;>assumption)
@[simp] theorem e_aSlice_1:
 ∀(P:Program) (t:TypeId) (lo hi mx:Option AV) (b:ByteArray),
  aSlice P t (AV.lit (Value.string b)) lo hi mx=
   match tElem P t with
   |some e=>
    match tSize P e with
    |some s=>none
    |none=>none
   |none=>
    if tStr P t=true then
     match bndA lo 0,bndA hi (ByteArray.size b) with
     |some l,some h=>
      if l≤h∧h≤ByteArray.size b∧Option.isNone mx=true then
       some (AV.lit (Value.string (ByteArray.extract b l h)))
      else none
     |x,x_1=>none
    else none:=by
 intros;apply nr;first|rfl|(apply Go.AL.aSlice.eq_1<;>assumption)
@[simp] theorem e_aSlice_2:
 ∀(P:Program) (t:TypeId) (a:AV) (lo hi mx:Option AV),
  (∀(b:ByteArray),a=AV.lit (Value.string b)→False)→
   aSlice P t a lo hi mx=
    match tElem P t with
    |some e=>
     match tSize P e with
     |some s=>
      match a with
      |AV.list own sz vs=>
       match bndA lo 0,bndA hi (List.length vs),bndA mx (List.length vs) with
       |some l,some h,some m=>
        if sz=s∧l≤h∧h≤m∧m≤List.length vs∧(Option.isSome mx=true→Option.isSome hi=true) then
         some (AV.list false sz (List.drop l (List.take h vs)))
        else none
       |x,x_2,x_3=>none
      |AV.lit (Value.slice base len cap)=>
       match bndA lo 0,bndA hi len,bndA mx cap with
       |some l,some h,some m=>
        if l≤h∧h≤m∧m≤cap∧(Option.isSome mx=true→Option.isSome hi=true) then
         some
          (AV.lit
           (Value.slice (if m=l then base else Option.map (fun x=>Addr.add x (l*s)) base) (h-l)
            (m-l)))
        else none
       |x,x_2,x_3=>none
      |x=>none
     |none=>none
    |none=>if tStr P t=true then none else none:=by
 intros;apply nr;first|rfl|(apply Go.AL.aSlice.eq_2<;>assumption)
@[simp] theorem e_bndA_1:
 ∀(dflt:Nat),bndA none dflt=some dflt:=by
 intros;apply nr;first|rfl|(apply Go.AL.bndA.eq_1<;>assumption)
@[simp] theorem e_bndA_2:
 ∀(dflt:Nat) (k:IntKind) (i:Int),
  bndA (some (AV.lit (Value.int k i))) dflt=if 0≤i then some (Int.toNat i) else none:=by
 intros;apply nr;first|rfl|(apply Go.AL.bndA.eq_2<;>assumption)
@[simp] theorem e_bndA_3:
 ∀(o:Option AV) (dflt:Nat),
  (o=none→False)→(∀(k:IntKind) (i:Int),o=some (AV.lit (Value.int k i))→False)→bndA o dflt=none:=by
 intros;apply nr;first|rfl|(apply Go.AL.bndA.eq_3<;>assumption)
@[simp] theorem e_aField_1:
 ∀(P:Program) (t:TypeId) (f off:Nat) (ft:TypeId) (cs:List AV),
  tField P t f=some (off,ft)→aField P t f (AV.agg cs)=cutAV P ft cs off:=by
 intros;apply nr;first|rfl|(apply Go.AL.aField.eq_1<;>assumption)
@[simp] theorem e_aField_2:
 ∀(P:Program) (t:TypeId) (f:Nat) (a:AV),
  (∀(off:Nat) (ft:TypeId) (cs:List AV),tField P t f=some (off,ft)→a=AV.agg cs→False)→
   aField P t f a=none:=by
 intros;apply nr;first|rfl|(apply Go.AL.aField.eq_2<;>assumption)
@[simp] theorem e_cutAV_1:
 ∀(P:Program) (t:TypeId) (cs:List AV) (off:Nat),
  cutAV P t cs off=
   match tAgg P t with
   |some true=>
    match tSize P t with
    |some s=>some (AV.agg (List.take s (List.drop off cs)))
    |none=>none
   |some false=>cs[off]?
   |none=>none:=by
 intros;apply nr;first|rfl|(apply Go.AL.cutAV.eq_1<;>assumption)
@[simp] theorem e_aIndex_1:
 ∀(P:Program) (t:TypeId) (k:IntKind) (i:Int) (b:ByteArray),
  aIndex P t (AV.lit (Value.string b)) (AV.lit (Value.int k i))=
   if 0≤i then
    match tArr P t with
    |some (n,e)=>
     match tSize P e,AV.lit (Value.string b) with
     |some s,AV.agg cs=>if i<↑n then cutAV P e cs (Int.toNat i*s) else none
     |x,x_1=>none
    |none=>
     if tStr P t=true then
      Option.map (fun c=>AV.lit (Value.int IntKind.u8 ↑(UInt8.toNat c))) (ByteArray.data b)[Int.toNat i]?
     else none
   else none:=by
 intros;apply nr;first|rfl|(apply Go.AL.aIndex.eq_1<;>assumption)
@[simp] theorem e_aIndex_2:
 ∀(P:Program) (t:TypeId) (a:AV) (k:IntKind) (i:Int),
  (∀(b:ByteArray),a=AV.lit (Value.string b)→False)→
   aIndex P t a (AV.lit (Value.int k i))=
    if 0≤i then
     match tArr P t with
     |some (n,e)=>
      match tSize P e,a with
      |some s,AV.agg cs=>if i<↑n then cutAV P e cs (Int.toNat i*s) else none
      |x,x_2=>none
     |none=>if tStr P t=true then none else none
    else none:=by
 intros;apply nr;first|rfl|(apply Go.AL.aIndex.eq_2<;>assumption)
@[simp] theorem e_aIndex_3:
 ∀(P:Program) (t:TypeId) (a ix:AV),
  (∀(k:IntKind) (i:Int),ix=AV.lit (Value.int k i)→False)→aIndex P t a ix=none:=by
 intros;apply nr;first|rfl|(apply Go.AL.aIndex.eq_3<;>assumption)
@[simp] theorem e_aLen_1:
 ∀(P:Program) (t:TypeId) (own:Bool) (sz:Nat) (vs:List AV),
  aLen P t (AV.list own sz vs)=
   match tElem P t with
   |some val=>some (AV.lit (Value.int IntKind.i64 ↑(List.length vs)))
   |none=>none:=by
 intros;apply nr;first|rfl|(apply Go.AL.aLen.eq_1<;>assumption)
@[simp] theorem e_aLen_2:
 ∀(P:Program) (t:TypeId) (a_2:Option Addr) (n cap:Nat),
  aLen P t (AV.lit (Value.slice a_2 n cap))=
   match tElem P t with
   |some val=>some (AV.lit (Value.int IntKind.i64 ↑n))
   |none=>none:=by
 intros;apply nr;first|rfl|(apply Go.AL.aLen.eq_2<;>assumption)
@[simp] theorem e_aLen_3:
 ∀(P:Program) (t:TypeId) (s:ByteArray),
  aLen P t (AV.lit (Value.string s))=
   if tStr P t=true then some (AV.lit (Value.int IntKind.i64 ↑(ByteArray.size s))) else none:=by
 intros;apply nr;first|rfl|(apply Go.AL.aLen.eq_3<;>assumption)
@[simp] theorem e_aLen_4:
 ∀(P:Program) (t:TypeId) (p n:Nat),
  aLen P t (AV.row p n)=
   match tElem P t with
   |some val=>some (AV.lit (Value.int IntKind.i64 ↑n))
   |none=>none:=by
 intros;apply nr;first|rfl|(apply Go.AL.aLen.eq_4<;>assumption)
@[simp] theorem e_aLen_5:
 ∀(P:Program) (t:TypeId) (a:AV),
  (∀(own:Bool) (sz:Nat) (vs:List AV),a=AV.list own sz vs→False)→
   (∀(a_1:Option Addr) (n cap:Nat),a=AV.lit (Value.slice a_1 n cap)→False)→
    (∀(s:ByteArray),a=AV.lit (Value.string s)→False)→
     (∀(p n:Nat),a=AV.row p n→False)→aLen P t a=none:=by
 intros;apply nr;first|rfl|(apply Go.AL.aLen.eq_5<;>assumption)
@[simp] theorem e_aMin_1:
 ∀(k:IntKind) (x:Int) (k_1:IntKind) (y:Int),
  aMin (AV.lit (Value.int k x)) (AV.lit (Value.int k_1 y))=some (AV.lit (Value.int k (if y<x then y else x))):=by
 intros;apply nr;first|rfl|(apply Go.AL.aMin.eq_1<;>assumption)
@[simp] theorem e_aMin_2:
 ∀(a b:AV),
  (∀(k:IntKind) (x:Int) (k_1:IntKind) (y:Int),
    a=AV.lit (Value.int k x)→b=AV.lit (Value.int k_1 y)→False)→
   aMin a b=none:=by
 intros;apply nr;first|rfl|(apply Go.AL.aMin.eq_2<;>assumption)
@[simp] theorem e_aMax_1:
 ∀(k:IntKind) (x:Int) (k_1:IntKind) (y:Int),
  aMax (AV.lit (Value.int k x)) (AV.lit (Value.int k_1 y))=some (AV.lit (Value.int k (if y>x then y else x))):=by
 intros;apply nr;first|rfl|(apply Go.AL.aMax.eq_1<;>assumption)
@[simp] theorem e_aMax_2:
 ∀(a b:AV),
  (∀(k:IntKind) (x:Int) (k_1:IntKind) (y:Int),
    a=AV.lit (Value.int k x)→b=AV.lit (Value.int k_1 y)→False)→
   aMax a b=none:=by
 intros;apply nr;first|rfl|(apply Go.AL.aMax.eq_2<;>assumption)
@[simp] theorem e_aConv_1:
 ∀(P:Program) (src dst:TypeId) (k k_1:IntKind) (n:Int),
  tInt P dst=some k→
   aConv P src dst (AV.lit (Value.int k_1 n))=
    if Option.isSome (Program.underlying P src)=true then some (AV.lit (Value.int k (IntKind.wrap k n))) else none:=by
 intros;apply nr;first|rfl|(apply Go.AL.aConv.eq_1<;>assumption)
@[simp] theorem e_aConv_1s:
 ∀(P:Program) (src dst:TypeId) (k:IntKind) (n:Int),
  tInt P dst=none→
   aConv P src dst (AV.lit (Value.int k n))=
    if Option.isSome (Program.underlying P src)=true∧tStr P dst=true then some (AV.lit (Value.string (Utf8.encode n))) else none:=by
 intros;apply nr;first|rfl|(apply Go.AL.aConv.eq_2<;>assumption)
@[simp] theorem e_aConv_2:
 ∀(P:Program) (src dst:TypeId) (own:Bool) (sz:Nat) (vs:List AV),
  aConv P src dst (AV.list own sz vs)=
   if sz=1∧tStr P dst=true then
    (match Option.bind (tElem P src) (tInt P) with
    |some IntKind.u8=>Option.map (fun l=>AV.lit (Value.string {data:=List.toArray l})) (bytesOf vs)
    |some IntKind.i32=>Option.map (fun l=>AV.lit (Value.string (runesBytes l))) (runesOf vs)
    |_=>none)
   else none:=by
 intros;apply nr;first|rfl|(apply Go.AL.aConv.eq_3<;>assumption)
@[simp] theorem e_aConv_3:
 ∀(P:Program) (src dst:TypeId) (a:AV),
  (∀(own:Bool) (sz:Nat) (vs:List AV),a=AV.list own sz vs→False)→
   (∀(k k_1:IntKind) (n:Int),tInt P dst=some k→a=AV.lit (Value.int k_1 n)→False)→
    (∀(k:IntKind) (n:Int),tInt P dst=none→a=AV.lit (Value.int k n)→False)→aConv P src dst a=none:=by
 intros;apply nr;first|rfl|(apply Go.AL.aConv.eq_4<;>assumption)
@[simp] theorem convRow_eq (P:Program) (src dst:TypeId) (x:AV) (A:Slots) (σ:Store) (K:AV→Slots→Store→Prop):aConvRow P src dst x A σ K=match x,(tElem P dst).bind (tInt P) with
 | .lit (.string s),some .u8=>tStr P src=true∧s.size≤maxLen∧K (.list true 1 (bytesV s)) A σ
 | .lit (.string s),some .i32=>tStr P src=true∧s.size≤maxLen∧K (.list true 1 (runesV s)) A σ
 | .lit (.slice (some ⟨p,off,none⟩) len _),none=>tStr P dst=true∧(tElem P src).bind (tInt P)=some .u8∧(match σ p with
  |some cs=>off+len≤cs.length∧(match bytesOf ((cs.drop off).take len) with
   |some l=>K (.lit (.string ⟨l.toArray⟩)) A σ
   |none=>False)
  |none=>False)
 | .lit (.slice none 0 0),none=>tStr P dst=true∧(tElem P src).bind (tInt P)=some .u8∧K (.lit (.string ⟨#[]⟩)) A σ
 |_,_=>False:=nr rfl
@[simp] theorem e_aNilCheck_1:
 ∀(p:Addr),aNilCheck (AV.lit (Value.pointer (some p)))=some (AV.lit (Value.pointer (some p))):=by
 intros;apply nr;first|rfl|(apply Go.AL.aNilCheck.eq_1<;>assumption)
@[simp] theorem e_aNilCheck_2:
 ∀(cs:List AV),aNilCheck (AV.fptr cs)=some (AV.fptr cs):=by
 intros;apply nr;first|rfl|(apply Go.AL.aNilCheck.eq_2<;>assumption)
@[simp] theorem e_aNilCheck_3:
 ∀(f:FuncId) (fs cs:List AV),aNilCheck (AV.func (Fn.func f) fs cs)=some (AV.func (Fn.func f) fs cs):=by
 intros;apply nr;first|rfl|(apply Go.AL.aNilCheck.eq_3<;>assumption)
@[simp] theorem e_aNilCheck_4:
 ∀(a:AV),
  (∀(p:Addr),a=AV.lit (Value.pointer (some p))→False)→
   (∀(cs:List AV),a=AV.fptr cs→False)→
    (∀(f:FuncId) (fs cs:List AV),a=AV.func (Fn.func f) fs cs→False)→aNilCheck a=none:=by
 intros;apply nr;first|rfl|(apply Go.AL.aNilCheck.eq_4<;>assumption)
@[simp] theorem e_aBuild_1:
 ∀(P:Program) (t:TypeId) (parts:List (Nat×AV)),
  aBuild P t parts=
   match tParts P t,azero P t with
   |true,some zs=>Option.map AV.agg (fillA P t zs parts)
   |x,x_1=>none:=by
 intros;apply nr;first|rfl|(apply Go.AL.aBuild.eq_1<;>assumption)
@[simp] theorem e_fillA_1:
 ∀(P:Program) (t:TypeId) (cs:List AV),fillA P t cs []=some cs:=by
 intros;apply nr;first|rfl|(apply Go.AL.fillA.eq_1<;>assumption)
@[simp] theorem e_fillA_2:
 ∀(P:Program) (t:TypeId) (cs:List AV) (i:Nat) (v:AV) (rest:List (Nat×AV)),
  fillA P t cs ((i,v)::rest)=
   match tPart P t i with
   |some (off,s)=>
    if AV.solid v=true∧List.length (AV.cells v)=s∧off+s≤List.length cs then
     fillA P t (setRange cs off (AV.cells v)) rest
    else none
   |none=>none:=by
 intros;apply nr;first|rfl|(apply Go.AL.fillA.eq_2<;>assumption)
@[simp] theorem e_setEls_1:
 ∀(P:Program) (e:TypeId) (s:Nat) (els:List AV),setEls P e s els []=some els:=by
 intros;apply nr;first|rfl|(apply Go.AL.setEls.eq_1<;>assumption)
@[simp] theorem e_setEls_2:
 ∀(P:Program) (e:TypeId) (s:Nat) (els:List AV) (i:Nat) (v:AV) (rest:List (Nat×AV)),
  setEls P e s els ((i,v)::rest)=
   if
     AV.solid (AV.share (conv P e (AV.share v)))=true∧
      List.length (AV.cells (AV.share (conv P e (AV.share v))))=s∧i<List.length els then
    setEls P e s (List.set els i (AV.share (conv P e (AV.share v)))) rest
   else none:=by
 intros;apply nr;first|rfl|(apply Go.AL.setEls.eq_2<;>assumption)
@[simp] theorem e_setRange_1:
 ∀ {α:Type} (cs:List α) (off:Nat),setRange cs off []=cs:=by
 intros;apply nr;first|rfl|(apply Go.AL.setRange.eq_1<;>assumption)
@[simp] theorem e_setRange_2:
 ∀ {α:Type} (cs:List α) (off:Nat) (x_1:α) (xs:List α),
  setRange cs off (x_1::xs)=setRange (List.set cs off x_1) (off+1) xs:=by
 intros;apply nr;first|rfl|(apply Go.AL.setRange.eq_2<;>assumption)
@[simp] theorem e_mkAV_1:
 ∀(agg:Bool) (c:AV),mkAV agg [c]=if agg=true then some (AV.agg [c]) else some c:=by
 intros;apply nr;first|rfl|(apply Go.AL.mkAV.eq_1<;>assumption)
@[simp] theorem e_mkAV_2:
 ∀(agg:Bool) (cs:List AV),
  (∀(c:AV),cs=[c]→False)→mkAV agg cs=if agg=true then some (AV.agg cs) else none:=by
 intros;apply nr;first|rfl|(apply Go.AL.mkAV.eq_2<;>assumption)
@[simp] theorem e_nodeOf_1:
 ∀(parts:Array (Nat×Operand)) (A:Slots),
  nodeOf parts A=List.map (fun p=>(Prod.fst p,evalA A (Prod.snd p))) (Array.toList parts):=by
 intros;apply nr;first|rfl|(apply Go.AL.nodeOf.eq_1<;>assumption)
@[simp] theorem e_Value_oneCellp_1:
 ∀(cells:Array Value),Value.oneCell' (Value.agg cells)=false:=by
 intros;apply nr;first|rfl|(apply Go.Value.oneCell'.eq_1<;>assumption)
@[simp] theorem e_Value_oneCellp_2:
 ∀(vs:Array Value),Value.oneCell' (Value.tuple vs)=false:=by
 intros;apply nr;first|rfl|(apply Go.Value.oneCell'.eq_2<;>assumption)
@[simp] theorem e_Value_oneCellp_3:
 ∀(x:Value),
  (∀(cells:Array Value),x=Value.agg cells→False)→
   (∀(vs:Array Value),x=Value.tuple vs→False)→Value.oneCell' x=true:=by
 intros;apply nr;first|rfl|(apply Go.Value.oneCell'.eq_3<;>assumption)
@[simp] theorem e_tPart_1:
 ∀(P:Program) (t:TypeId) (i:Nat),
  tPart P t i=
   match tArr P t with
   |some (fst,e)=>Option.map (fun s=>(i*s,s)) (tSize P e)
   |none=>Option.bind (tField P t i) fun p=>Option.map (fun s=>(Prod.fst p,s)) (tSize P (Prod.snd p)):=by
 intros;apply nr;first|rfl|(apply Go.AL.tPart.eq_1<;>assumption)
@[simp] theorem e_ares_1:
 ∀(P:Program) (A:Slots) (σ:Store) (r:ResultVar),ares P A σ [r]=resVal P A σ r:=by
 intros;apply nr;first|rfl|(apply Go.AL.ares.eq_1<;>assumption)
@[simp] theorem e_ares_2:
 ∀(P:Program) (A:Slots) (σ:Store) (x:List ResultVar),
  (∀(r:ResultVar),x=[r]→False)→
   ares P A σ x=Option.map (fun vs=>AV.tuple (List.map AV.keep1 vs)) (List.mapM (resVal P A σ) x):=by
 intros;apply nr;first|rfl|(apply Go.AL.ares.eq_2<;>assumption)
@[simp] theorem e_resVal_1:
 ∀(P:Program) (A:Slots) (σ:Store) (t:Tmp),resVal P A σ (ResultVar.tmp t)=some (A t):=by
 intros;apply nr;first|rfl|(apply Go.AL.resVal.eq_1<;>assumption)
@[simp] theorem e_resVal_2:
 ∀(P:Program) (A:Slots) (σ:Store) (p:Tmp) (t:TypeId),
  resVal P A σ (ResultVar.cell p t)=Option.map AV.share (aLoad P σ t (A p)):=by
 intros;apply nr;first|rfl|(apply Go.AL.resVal.eq_2<;>assumption)
@[simp] theorem e_slotsL_1:
 slotsL []=noSlots:=by
 intros;apply nr;first|rfl|(apply Go.AL.slotsL.eq_1<;>assumption)
@[simp] theorem e_slotsL_2:
 ∀(p:Nat×AV) (r:List (Nat×AV)),slotsL (p::r)=upd (slotsL r) (Prod.fst p) (Prod.snd p):=by
 intros;apply nr;first|rfl|(apply Go.AL.slotsL.eq_2<;>assumption)
@[simp] theorem e_LeL_1:
 ∀(A:Slots),LeL A []=True:=by
 intros;apply nr;first|rfl|(apply Go.AL.LeL.eq_1<;>assumption)
@[simp] theorem e_LeL_2:
 ∀(A:Slots) (p:Nat×AV) (r:List (Nat×AV)),LeL A (p::r)=(AV.le (A (Prod.fst p)) (Prod.snd p)∧LeL A r):=by
 intros;apply nr;first|rfl|(apply Go.AL.LeL.eq_2<;>assumption)
@[simp] theorem e_noSlots_1:
 ∀(x:Nat),noSlots x=AV.top:=by
 intros;apply nr;first|rfl|(apply Go.AL.noSlots.eq_1<;>assumption)
def stealD (st:List Tmp) (d:Option Tmp):Bool:=match d with|some d=>st.contains d|none=>false
@[simp] theorem stealD_none (st:List Tmp):stealD st none=false:=nr rfl
@[simp] theorem stealD_some (st:List Tmp) (d:Tmp):stealD st (some d)=st.contains d:=nr rfl
def objD (st:List Tmp) (d:Option Tmp):Bool:=match d with|some d=>st.contains (d+1000000)|none=>false
@[simp] theorem objD_none (st:List Tmp):objD st none=false:=nr rfl
@[simp] theorem objD_some (st:List Tmp) (d:Tmp):objD st (some d)=st.contains (d+1000000):=nr rfl
@[simp] theorem callTys_false (ts:List TypeId):callTys false ts=ts:=nr rfl
@[simp] theorem callTys_true (ts:List TypeId):callTys true ts=[]:=nr rfl
def freeD (st:List Tmp) (d:Option Tmp):Bool:=match d with|some d=>st.contains (d+3000000)|none=>false
@[simp] theorem freeD_none (st:List Tmp):freeD st none=false:=nr rfl
@[simp] theorem freeD_some (st:List Tmp) (d:Tmp):freeD st (some d)=st.contains (d+3000000):=nr rfl
def rawD (st:List Tmp) (d:Option Tmp):Bool:=match d with|some d=>st.contains (d+2000000)|none=>false
@[simp] theorem rawD_none (st:List Tmp):rawD st none=false:=nr rfl
@[simp] theorem rawD_some (st:List Tmp) (d:Tmp):rawD st (some d)=st.contains (d+2000000):=nr rfl
def fixBD (st:List Tmp) (d:Option Tmp):Bool:=match d with|some d=>st.contains (d+5000000)|none=>false
@[simp] theorem fixBD_none (st:List Tmp):fixBD st none=false:=nr rfl
@[simp] theorem fixBD_some (st:List Tmp) (d:Tmp):fixBD st (some d)=st.contains (d+5000000):=nr rfl
def fixD (st:List Tmp) (d:Option Tmp):Bool:=match d with|some d=>st.contains (d+4000000)|none=>false
@[simp] theorem fixD_none (st:List Tmp):fixD st none=false:=nr rfl
@[simp] theorem fixD_some (st:List Tmp) (d:Tmp):fixD st (some d)=st.contains (d+4000000):=nr rfl
theorem fixK_tmp (st:List Tmp) (t:Tmp) (K:AV→Slots→Store→Prop) (v:AV) (A:Slots) (σ:Store):fixK st (.tmp t) K v A σ=if st.contains (t+5000000)=true then (match A t with
      | .lit (.pointer (some ⟨p,0,none⟩))=>match σ p with
        |some cs=>K v (upd A t (.fptr (cs.map AV.drop1))) (σ.del p)
        |none=>False
      |_=>False) else K v A σ:=nr rfl
theorem fixK_global (st:List Tmp) (t:Nat) (K:AV→Slots→Store→Prop) (v:AV) (A:Slots) (σ:Store):fixK st (.global t) K v A σ=K v A σ:=nr rfl
theorem fixK_const (st:List Tmp) (c:Value) (K:AV→Slots→Store→Prop) (v:AV) (A:Slots) (σ:Store):fixK st (.const c) K v A σ=K v A σ:=nr rfl
attribute [simp ↓] fixK_tmp fixK_global fixK_const
def sliceD (st:List Tmp) (d:Option Tmp) (hi mx:Option Operand):Bool:=stealD st d&&hi.isNone&&mx.isNone
@[simp] theorem sliceD_eq (st:List Tmp) (d:Option Tmp) (hi mx:Option Operand):sliceD st d hi mx=(stealD st d&&hi.isNone&&mx.isNone):=nr rfl
@[simp] theorem sliceOwn_eq (P:Program) (t:TypeId) (x:Operand) (lo:Option AV) (A:Slots) (σ:Store) (K:AV→Slots→Store→Prop):aSliceOwn P t x lo A σ K=takeA A x fun v A'=>match v with
  | .list true sz vs=>match bndA lo 0 with
   |some l=>(tElem P t).bind (tSize P)=some sz∧l≤vs.length∧0<vs.length∧K (.list true sz (vs.drop l)) A' σ
   |none=>False
  |_=>False:=nr rfl
@[simp] theorem azeroB_false (P:Program) (t:TypeId):azeroB P false t=azero P t:=nr rfl
section
variable (P:Program) (st:List Tmp) (d:Option Tmp) (ty:TypeId) (ps:String) (af:Array Edge) (g:Option (Nat×Bool)) (A:Slots) (σ:Store) (K:AV→Slots→Store→Prop)
theorem o_pick (c x y:Operand):aoper P st ⟨d, .pick c x y,ty,ps,af,g⟩ A σ K=match (match evalA A c with| .lit (.bool t)=>some (evalA A (if t=true then x else y)).share|_=>none:Option AV) with|some v=>K v A σ|none=>False:=nr rfl
theorem o_load (t:TypeId) (x:Operand):aoper P st ⟨d, .load t x,ty,ps,af,g⟩ A σ K=if stealD st d=true then aLoadTake P t (evalA A x) A σ K else match aLoad P (if fixD st d=true then fun _=>none else σ) t (evalA A x) with|some v=>K v.share A σ|none=>False:=nr (by
 show (if stealD st d=true then aLoadTake P t (evalA A x) A σ K else match (aLoad P (if fixD st d=true then fun _=>none else σ) t (evalA A x)).map AV.share with|some v=>K v A σ|none=>False)=_
 cases aLoad P (if fixD st d=true then fun _=>none else σ) t (evalA A x)<;>rfl)
theorem o_store (t:TypeId) (y x:Operand):aoper P st ⟨d, .store t y x,ty,ps,af,g⟩ A σ K=aStore P t (evalA A y) x A σ (fixK st y K):=nr rfl
theorem o_buildSlice (t:TypeId) (len:Nat) (parts:Array (Nat×Operand)):aoper P st ⟨d, .buildSlice t len parts,ty,ps,af,g⟩ A σ K=if objD st d=true then aBuildObj P t len parts A σ K else match aBuildSlice P t len (nodeOf parts A) with|some v=>K v A σ|none=>False:=nr rfl
theorem o_extract (t:Tmp) (ix:Nat):aoper P st ⟨d, .extract (.tmp t) ix,ty,ps,af,g⟩ A σ K=aExtract t ix A σ K:=nr rfl
theorem o_field (s:TypeId) (x:Operand) (f:Nat):aoper P st ⟨d, .field s x f,ty,ps,af,g⟩ A σ K=match aField P s f (evalA A x) with|some v=>K v.share A σ|none=>False:=nr (by
 show (match (aField P s f (evalA A x)).map AV.share with|some v=>K v A σ|none=>False)=_
 cases aField P s f (evalA A x)<;>rfl)
theorem o_index (t:TypeId) (x y:Operand):aoper P st ⟨d, .index t x y,ty,ps,af,g⟩ A σ K=match aIndex P t (evalA A x) (evalA A y) with|some v=>K v.share A σ|none=>False:=nr (by
 show (match (aIndex P t (evalA A x) (evalA A y)).map AV.share with|some v=>K v A σ|none=>False)=_
 cases aIndex P t (evalA A x) (evalA A y)<;>rfl)
theorem o_build (t:TypeId) (parts:Array (Nat×Operand)):aoper P st ⟨d, .build t parts,ty,ps,af,g⟩ A σ K=if objD st d=true then aBuildTake P (rawD st d) t parts A σ K else match aBuild P t ((nodeOf parts A).map fun p=>(p.1,conv P (((tField P t p.1).map (·.2)).getD (((tArr P t).map (·.2)).getD 0)) p.2.share)) with|some v=>K v A σ|none=>False:=nr rfl
theorem o_len (x:Operand) (t:TypeId):aoper P st ⟨d, .call ⟨.builtin .len, #[x], #[t]⟩,ty,ps,af,g⟩ A σ K=if objD st d=true then aMapLen P t (evalA A x) A σ K else match aLen P t (evalA A x) with|some v=>K v A σ|none=>False:=nr rfl
theorem o_append (x y:Operand) (t:TypeId):aoper P st ⟨d, .call ⟨.builtin .append, #[x,y], #[t,t]⟩,ty,ps,af,g⟩ A σ K=if objD st d=true then (if isRow (evalA A y)=true then aAppendRow P t x y A σ K else aAppendObj P t x y A σ K) else aAppend P t x y A σ K:=nr (if_pos rfl)
theorem o_appendS (x y:Operand) (t t':TypeId) (h:¬t=t'):aoper P st ⟨d, .call ⟨.builtin .append, #[x,y], #[t,t']⟩,ty,ps,af,g⟩ A σ K=aAppendStr P t t' x y A σ K:=nr (if_neg h)
theorem o_copy (x y:Operand) (t t':TypeId):aoper P st ⟨d, .call ⟨.builtin .copy, #[x,y], #[t,t']⟩,ty,ps,af,g⟩ A σ K=aCopy P t (evalA A x) (evalA A y) A σ K:=nr rfl
theorem o_call (f:Operand) (args:Array Operand) (ts:Array TypeId):aoper P st ⟨d, .call ⟨.value f,args,ts⟩,ty,ps,af,g⟩ A σ K=match evalA A f with
      | .func (.func f) first captured=>takeArgs P args.toList (callTys (objD st d) ts.toList) A fun vs A'=>ACallX P f (first.map AV.share++vs++captured.map AV.share) σ fun v σ'=>K v A' σ'
      |_=>False:=nr rfl
theorem o_makeMap (t:TypeId) (r:Option Operand):aoper P st ⟨d, .makeMap t r,ty,ps,af,g⟩ A σ K=aOth P (.makeMap t r) (evalA A) σ fun v σ'=>K v A σ':=nr rfl
theorem o_mapUpdate (t:TypeId) (m k x:Operand):aoper P st ⟨d, .mapUpdate t m k x,ty,ps,af,g⟩ A σ K=aOth P (.mapUpdate t m k x) (evalA A) σ fun v σ'=>K v A σ':=nr rfl
theorem o_lookup (t:TypeId) (m k:Operand) (ok:Bool):aoper P st ⟨d, .lookup t m k ok,ty,ps,af,g⟩ A σ K=aOth P (.lookup t m k ok) (evalA A) σ fun v σ'=>K v A σ':=nr rfl
theorem o_range (t:TypeId) (x:Operand):aoper P st ⟨d, .range t x,ty,ps,af,g⟩ A σ K=aOth P (.range t x) (evalA A) σ fun v σ'=>K v A σ':=nr rfl
theorem o_entry (it:Operand):aoper P st ⟨d, .entry it,ty,ps,af,g⟩ A σ K=aOth P (.entry it) (evalA A) σ fun v σ'=>K v A σ':=nr rfl
theorem o_next (it:Operand) (b:Bool):aoper P st ⟨d, .next it b,ty,ps,af,g⟩ A σ K=aOth P (.next it b) (evalA A) σ fun v σ'=>K v A σ':=nr rfl
end
end Go.AL
namespace Go.AL
open Go
variable [GL]
set_option linter.unusedSectionVars false
structure Tag {β:Type} (K:β):Type where
def withO {α:Type} (x:Option α) (K:α→Prop) (_t:Tag K:= .mk):Prop:=match x with|some v=>K v|none=>False
def withV {α:Type} (x:α) (K:α→Prop) (_t:Tag K:= .mk):Prop:=K x
def callK (P:Program) (f:FuncId) (args:List AV) (σ:Store) (R:AV→Store→Prop) (_t:Tag R:= .mk):Prop:=ACalls P f args σ R
def extK (P:Program) (f:FuncId) (args:List AV) (σ:Store) (R:AV→Store→Prop) (_t:Tag R:= .mk):Prop:=AExt P f args σ R
theorem extK.of {P:Program} {f:FuncId} {args:List AV} {σ:Store} {R R':AV→Store→Prop} {t:Tag R'} (h:AExt P f args σ R) (hr:∀v σ',R v σ'→R' v σ'):extK P f args σ R' t:=h.mono hr
theorem callK.of {P:Program} {f:FuncId} {args:List AV} {σ:Store} {R R':AV→Store→Prop} {t:Tag R'} (h:ACalls P f args σ R) (hr:∀v σ',R v σ'→R' v σ'):callK P f args σ R' t:=h.mono hr
theorem callK.eq {P:Program} {f:FuncId} {args:List AV} {σ S:Store} {V:AV} {R':AV→Store→Prop} {t:Tag R'} (h:ACalls P f args σ fun v σ'=>v=V∧σ'=S) (hk:R' V S):callK P f args σ R' t:=h.mono (by rintro v τ ⟨rfl,rfl⟩;exact hk)
def AllLe:List AV→List AV→Prop
 |[],[]=>True
 |a::as,b::bs=>a.le b∧AllLe as bs
 |_,_=>False
theorem AllLe.get:∀ {as bs:List AV},AllLe as bs→as.length=bs.length∧∀(i:Nat) (b:AV),bs[i]?=some b→∃a,as[i]?=some a∧a.le b
 |[],[],_=>⟨rfl,by simp⟩
 |[],_::_,h=>h.elim
 |_::_,[],h=>h.elim
 |a::as,b::bs,h=>by
  obtain ⟨h1,h2⟩:=AllLe.get h.2
  refine ⟨by simp[h1],fun i x hx=> ?_⟩
  cases i with
  |zero=>simp at hx;subst hx;exact ⟨a,rfl,h.1⟩
  |succ i=>simp at hx;simpa using h2 i x hx
theorem ACalls.le {P:Program} {f:FuncId} {args args':List AV} {σ:Store} {R:AV→Store→Prop} (hl:AllLe args args') (h:ACalls P f args' σ R):ACalls P f args σ R:=by
 intro D G w cargs h1 h2 h3 h4
 obtain ⟨l1,l2⟩:=hl.get
 refine h D G w cargs (by omega) (fun i c u hc hu=> ?_) h3 h4
 obtain ⟨a,ha,hle⟩:=l2 i c hc
 obtain ⟨q1,q2⟩:=h2 i a u ha hu
 exact ⟨(hle _ _ q1).1,(hle _ _ q1).2 _ _ _ q2⟩
theorem callK.le {P:Program} {f:FuncId} {args args':List AV} {σ:Store} {R R':AV→Store→Prop} {t:Tag R'} (hl:AllLe args args') (h:ACalls P f args' σ R) (hr:∀v σ',R v σ'→R' v σ'):callK P f args σ R' t:=(ACalls.le hl h).mono hr
def codeK (P:Program) (n:Nat) (c:Code) (Q:Exit→Slots→Store→Prop) (A:Slots) (σ:Store) (_t:Tag Q:= .mk):Prop:=AWp P n c Q A σ
@[simp] theorem withO_some {α:Type} (v:α) (K:α→Prop):withO (some v) K=K v:=nr rfl
@[simp] theorem withO_none {α:Type} (K:α→Prop):withO none K=False:=nr rfl
@[simp] theorem withV_val {α:Type} (v:α) (K:α→Prop):withV v K=K v:=nr rfl
def ptrOf:AV→Option (Nat×Nat)
 | .lit (.pointer (some ⟨o,off,none⟩))=>some (o,off)
 |_=>none
@[simp] theorem ptrOf_ptr (o off:Nat):ptrOf (.lit (.pointer (some ⟨o,off,none⟩)))=some (o,off):=nr rfl
def boolOf:AV→Option Bool
 | .lit (.bool b)=>some b
 |_=>none
@[simp] theorem boolOf_bool (b:Bool):boolOf (.lit (.bool b))=some b:=nr rfl
def intIn:AV→Option Int
 | .lit (.int _ n)=>some n
 |_=>none
@[simp] theorem intIn_int (k:IntKind) (n:Int):intIn (.lit (.int k n))=some n:=nr rfl
def mapIn:AV→Option Nat
 | .lit (.map (some g))=>some g
 |_=>none
@[simp] theorem mapIn_map (g:Nat):mapIn (.lit (.map (some g)))=some g:=nr rfl
def litIn:AV→Option Value
 | .lit v=>some v
 |_=>none
@[simp] theorem litIn_lit (v:Value):litIn (.lit v)=some v:=nr rfl
def strIn:AV→Option ByteArray
 | .lit (.string s)=>some s
 |_=>none
@[simp] theorem strIn_str (s:ByteArray):strIn (.lit (.string s))=some s:=nr rfl
def funcOf:AV→Option (FuncId×List AV×List AV)
 | .func (.func f) first captured=>some (f,first,captured)
 |_=>none
@[simp] theorem funcOf_func (f:FuncId) (fs cs:List AV):funcOf (.func (.func f) fs cs)=some (f,fs,cs):=nr rfl
def tupleOf:AV→Option (List AV)
 | .tuple vs=>some vs
 |_=>none
@[simp] theorem tupleOf_tuple (vs:List AV):tupleOf (.tuple vs)=some vs:=nr rfl
def ownOf (sz:Nat):AV→Option (List AV)
 | .list true sz' vs=>if sz'=sz then some vs else none
 |_=>none
@[simp] theorem ownOf_own (sz sz':Nat) (vs:List AV):ownOf sz (.list true sz' vs)=if sz'=sz then some vs else none:=nr rfl
inductive Lot where
 |no
 |one (x:Operand)
 |more
def lotOf:List (Nat×Operand)→Lot
 |[]=> .no
 |[(0,x)]=> .one x
 |_=> .more
@[simp] theorem lotOf_none:lotOf []= .no:=nr rfl
@[simp] theorem lotOf_one (x:Operand):lotOf [(0,x)]= .one x:=nr rfl
@[simp] theorem lotOf_more (p q:Nat×Operand) (l:List (Nat×Operand)):lotOf (p::q::l)= .more:=by obtain ⟨i,x⟩:=p;cases i<;>rfl
theorem lotOf_else (l:List (Nat×Operand)) (h1:l=[]→False) (h2:∀x,l=[(0,x)]→False):lotOf l= .more:=by
 unfold lotOf;split
 ·exact (h1 rfl).elim
 ·exact (h2 _ rfl).elim
 ·rfl
@[simp] theorem listCells_list (own:Bool) (s:Nat) (vs:List AV):listCells (.list own s vs)=some ((flat vs).map AV.drop1):=nr rfl
theorem codeK.loop {P:Program} (hm:P.follows .mixedOrders=true) {st:List Tmp} {plans:List (Nat×Plan)} {n:Nat} {c:Code} {Q:Exit→Slots→Store→Prop} {A:Slots} {σ:Store} {t:Tag Q} {X:Type} (Inv:X→Prop) (sl:X→List (Nat×AV)) (so:X→Store) (μ:X→Nat) (x0:X)
  (hok:codeOk st plans n c=true) (h0:Inv x0) (hA:LeL A (sl x0)) (hσ:Store.sub (so x0) σ)
  (round:∀x,Inv x→awp P st plans n c (athen (fun A' σ'=>∃y,Inv y∧μ y<μ x∧LeL A' (sl y)∧Store.sub (so y) σ') Q) (slotsL (sl x)) (so x)):codeK P n (.loop c) Q A σ t:=
 AWp.loopL hm Inv sl so μ x0 hok h0 hA hσ round
section
variable (P:Program) (st:List Tmp) (plans:List (Nat×Plan)) (n:Nat) (Q:Exit→Slots→Store→Prop) (A:Slots) (σ:Store)
theorem w_seq (x y:Code):awp P st plans n (.seq x y) Q A σ=awp P st plans n x (athen (awp P st plans n y Q) Q) A σ:=nr rfl
theorem w_skip:awp P st plans n .skip Q A σ=Q .normal A σ:=nr rfl
theorem w_label (l:Nat):awp P st plans n (.label l) Q A σ=Q .normal A σ:=nr rfl
theorem w_exit (l:Nat):awp P st plans n (.exit l) Q A σ=Q (.exit l) A σ:=nr rfl
theorem w_goto (l:Nat):awp P st plans n (.goto l) Q A σ=Q (.goto l) A σ:=nr rfl
theorem w_ret:awp P st plans n .ret Q A σ=Q .ret A σ:=nr rfl
theorem w_block (id:Nat) (c:Code):awp P st plans n (.block id c) Q A σ=awp P st plans n c (ainBlock id Q) A σ:=nr rfl
theorem w_cond (c:Operand) (x y:Code):awp P st plans n (.cond c x y) Q A σ=withO (boolOf (evalA A c)) fun b=>if b=true then awp P st plans n x Q A σ else awp P st plans n y Q A σ:=nr (by
 rw[e_awp_4];dsimp only
 cases evalA A c with
 |lit v=>cases v<;>kernel_rfl
 |_=>kernel_rfl)
theorem w_region (id:Nat) (ops:Array Oper):awp P st plans n (.region id ops false) Q A σ=aopsAt P st ops (Q .normal) ops.toList 0 A σ:=nr (by simp only[awp,Bool.false_eq_true,if_false])
theorem w_draw (id:Nat) (ops:Array Oper):awp P st plans n (.region id ops true) Q A σ=withO (plans.lookup id) fun p=>aplan P st ops (Q .normal) p A σ:=nr (by rw[e_awp_9];simp only[if_true];kernel_rfl)
theorem w_loop (c:Code):awp P st plans n (.loop c) Q A σ=codeK P n (.loop c) Q A σ:=nr rfl
theorem w_rangeFunc (f:Operand) (ps:Array Tmp) (c d:Code):awp P st plans n (.rangeFunc f ps c d) Q A σ=codeK P n (.rangeFunc f ps c d) Q A σ:=nr rfl
theorem w_scope (c:Code):awp P st plans n (.scope c) Q A σ=codeK P n (.scope c) Q A σ:=nr rfl
theorem w_then_normal (N:Slots→Store→Prop):athen N Q .normal A σ=N A σ:=nr rfl
theorem w_then_ret (N:Slots→Store→Prop):athen N Q .ret A σ=Q .ret A σ:=nr rfl
theorem w_then_exit (N:Slots→Store→Prop) (l:Nat):athen N Q (.exit l) A σ=Q (.exit l) A σ:=nr rfl
theorem w_then_goto (N:Slots→Store→Prop) (l:Nat):athen N Q (.goto l) A σ=Q (.goto l) A σ:=nr rfl
theorem w_block_normal (id:Nat):ainBlock id Q .normal A σ=Q .normal A σ:=nr rfl
theorem w_block_ret (id:Nat):ainBlock id Q .ret A σ=Q .ret A σ:=nr rfl
theorem w_block_exit (id l:Nat):ainBlock id Q (.exit l) A σ=if l=id then Q .normal A σ else Q (.exit l) A σ:=nr (by simp only[ainBlock];split<;>rfl)
theorem w_block_goto (id l:Nat):ainBlock id Q (.goto l) A σ=Q (.goto l) A σ:=nr rfl
theorem w_aret_normal (rs:List ResultVar) (R:AV→Store→Prop):aret P rs R .normal A σ=withO (ares P A σ rs) fun v=>∃v' σ',v.le v'∧Store.sub σ' σ∧R v' σ':=nr (by kernel_rfl)
theorem w_aret_ret (rs:List ResultVar) (R:AV→Store→Prop):aret P rs R .ret A σ=withO (ares P A σ rs) fun v=>∃v' σ',v.le v'∧Store.sub σ' σ∧R v' σ':=nr (by kernel_rfl)
end
def estepO (P:Program) (st:List Tmp) (ops:Array Oper) (o:Oper) (K:Slots→Store→Prop) (A:Slots) (σ:Store):Prop:=
 match o.guard with
 |none=>aoper P st o A σ fun v A' σ'=>K (aput A' o.dst v) σ'
 |some (j,want)=>match yieldedA ops A j with
  |some b=>if b=some want then aoper P st o A σ fun v A' σ'=>K (aput A' o.dst v) σ' else K (aput A o.dst (.lit undef)) σ
  |none=>False
section
variable (P:Program) (st:List Tmp) (ops:Array Oper) (Q:Slots→Store→Prop) (K:Slots→Store→Prop) (A:Slots) (σ:Store)
theorem r_nil (i:Nat):aopsAt P st ops Q [] i A σ=Q A σ:=nr rfl
theorem r_cons (o:Oper) (rest:List Oper) (i:Nat):aopsAt P st ops Q (o::rest) i A σ=estep P st ops i (aopsAt P st ops Q rest (i+1)) A σ:=nr rfl
theorem r_estep (i:Nat):estep P st ops i K A σ=withO (ops[i]?) fun o=>estepO P st ops o K A σ:=nr (by
 unfold estep estepO
 cases ops[i]?<;>rfl)
theorem r_done:aplan P st ops Q .done A σ=Q A σ:=nr rfl
theorem r_step (i:Nat) (p:Plan):aplan P st ops Q (.step i p) A σ=estep P st ops i (aplan P st ops Q p) A σ:=nr rfl
theorem r_alt (p q:Plan):aplan P st ops Q (.alt p q) A σ=(aplan P st ops Q p A σ∧aplan P st ops Q q A σ):=nr rfl
theorem r_seq_nil (p:Plan):aplan P st ops Q (Plan.seq [] p) A σ=aplan P st ops Q p A σ:=nr rfl
theorem r_seq_cons (i:Nat) (l:List Nat) (p:Plan):aplan P st ops Q (Plan.seq (i::l) p) A σ=estep P st ops i (aplan P st ops Q (Plan.seq l p)) A σ:=nr rfl
variable (op:Op) (ty:TypeId) (ps:String) (af:Array Edge)
theorem r_plain (d:Tmp):estepO P st ops ⟨some d,op,ty,ps,af,none⟩ K A σ=aoper P st ⟨some d,op,ty,ps,af,none⟩ A σ fun v A' σ'=>K (upd A' d v) σ':=nr rfl
theorem r_plain0:estepO P st ops ⟨none,op,ty,ps,af,none⟩ K A σ=aoper P st ⟨none,op,ty,ps,af,none⟩ A σ fun _ A' σ'=>K A' σ':=nr rfl
theorem r_guard (d:Tmp) (j:Nat) (want:Bool):estepO P st ops ⟨some d,op,ty,ps,af,some (j,want)⟩ K A σ=
  withO (yieldedA ops A j) fun b=>if b=some want then aoper P st ⟨some d,op,ty,ps,af,some (j,want)⟩ A σ fun v A' σ'=>K (upd A' d v) σ' else K (upd A d (.lit (.tuple #[]))) σ:=nr (by kernel_rfl)
theorem r_guard0 (j:Nat) (want:Bool):estepO P st ops ⟨none,op,ty,ps,af,some (j,want)⟩ K A σ=
  withO (yieldedA ops A j) fun b=>if b=some want then aoper P st ⟨none,op,ty,ps,af,some (j,want)⟩ A σ fun _ A' σ'=>K A' σ' else K A σ:=nr (by kernel_rfl)
end
section
variable (P:Program) (st:List Tmp) (d:Option Tmp) (ty:TypeId) (ps:String) (af:Array Edge) (g:Option (Nat×Bool)) (A:Slots) (σ:Store) (K:AV→Slots→Store→Prop)
theorem p_move_tmp (t:Tmp):aoper P st ⟨d, .move (.tmp t),ty,ps,af,g⟩ A σ K=withV (A t) fun v=>if stealD st d=true then withV (conv P ty v) fun v'=>withV v.share fun v''=>K v' (upd A t v'') σ else withV v.share fun v'=>K v' A σ:=nr rfl
theorem p_move_const (c:Value):aoper P st ⟨d, .move (.const c),ty,ps,af,g⟩ A σ K=withV (conv P ty (.lit c)) fun v=>K v A σ:=nr rfl
theorem p_assign_tmp (t:Tmp):aoper P st ⟨d, .assign (.tmp t),ty,ps,af,g⟩ A σ K=withV (A t) fun v=>if (freeD st d&&objRow v)=true then aFreeze v σ (fun v σ'=>K v A σ') else if objD st d=true then withV v.share fun v''=>K v (upd A t v'') σ else withV (conv P ty v) fun v'=>withV v.share fun v''=>K v' (upd A t v'') σ:=nr rfl
theorem p_assign_const (c:Value):aoper P st ⟨d, .assign (.const c),ty,ps,af,g⟩ A σ K=if (freeD st d&&objRow (.lit c))=true then aFreeze (.lit c) σ (fun v σ'=>K v A σ') else if objD st d=true then K (.lit c) A σ else withV (conv P ty (.lit c)) fun v=>K v A σ:=nr rfl
theorem p_pick (c x y:Operand):aoper P st ⟨d, .pick c x y,ty,ps,af,g⟩ A σ K=withO (boolOf (evalA A c)) fun t=>if t=true then withV (evalA A x).share fun v=>K v A σ else withV (evalA A y).share fun v=>K v A σ:=nr (by
 rw[o_pick]
 cases evalA A c with
 |lit v=>cases v<;>first|rfl|(rename_i b;cases b<;>rfl)
 |_=>rfl)
theorem p_load (t:TypeId) (x:Operand):aoper P st ⟨d, .load t x,ty,ps,af,g⟩ A σ K=if stealD st d=true then aLoadTake P t (evalA A x) A σ K else withO (aLoad P (if fixD st d=true then fun _=>none else σ) t (evalA A x)) fun v=>withV v.share fun v'=>K v' A σ:=nr (by rw[o_load];kernel_rfl)
theorem p_alloc (e:TypeId):aoper P st ⟨d, .alloc e,ty,ps,af,g⟩ A σ K=if rawD st d=true then withO (tZero P e) (fun z=>∀p:Nat,σ p=none→σ (mkey p)=none→K (.lit (.pointer (some ⟨p,0,none⟩))) A (σ.put p (rawA e z.cells))) else withO (azero P e) fun cs=>∀p:Nat,σ p=none→K (.lit (.pointer (some ⟨p,0,none⟩))) A (σ.upd p cs):=nr (by kernel_rfl)
theorem p_box (e:TypeId) (x:Operand):aoper P st ⟨d, .box e x,ty,ps,af,g⟩ A σ K=if fixBD st d=true then (takeA A x fun v A'=>withV (cond (objD st d) v (conv P e v)) fun v'=>v'.solid=true∧withV v'.cells fun cs=>K (.fptr (cs.map AV.drop1)) A' σ) else takeA A x fun v A'=>withV (cond (objD st d) v (conv P e v)) fun v'=>v'.solid=true∧withV v'.cells fun cs=>∀p:Nat,σ p=none→K (.lit (.pointer (some ⟨p,0,none⟩))) A' (σ.upd p cs):=nr rfl
theorem p_store (t:TypeId) (y x:Operand):aoper P st ⟨d, .store t y x,ty,ps,af,g⟩ A σ K=withO (ptrOf (evalA A y)) fun q=>withO (σ q.1) fun cs=>takeA A x fun v A'=>withV (conv P t v) fun v'=>withV v'.cells fun us=>
  v'.solid=true∧tSize P t=some us.length∧q.2+us.length≤cs.length∧withV (setRange cs q.2 us) fun cs'=>fixK st y K .top A' (σ.upd q.1 cs'):=nr (by
 rw[o_store];unfold aStore
 cases evalA A y with
 |lit v=>cases v with
  |pointer a=>cases a with
   |none=>rfl
   |some a=>obtain ⟨b,off,sp⟩:=a;cases sp<;>kernel_rfl
  |_=>rfl
 |_=>rfl)
theorem p_buildSlice (t:TypeId) (len:Nat) (parts:Array (Nat×Operand)):aoper P st ⟨d, .buildSlice t len parts,ty,ps,af,g⟩ A σ K=if objD st d=true then withO (tElem P t) fun e=>match lotOf parts.toList with
  | .no=>len=0∧(tSize P e).isSome=true∧∀p:Nat,σ p=none→K (.lit (.slice (some ⟨p,0,none⟩) 0 0)) A (σ.upd p [])
  | .more=>withO (aBuildSlice P t len (nodeOf parts A)) fun v=>withO (listCells v) fun cs=>∀p:Nat,σ p=none→K (.lit (.slice (some ⟨p,0,none⟩) len len)) A (σ.upd p cs)
  | .one x=>withO (tSize P e) fun s=>len=1∧0<s∧s≤16777216∧tZeroSize P e=some s∧takeA A x fun v A'=>withV (conv P e v) fun v'=>v'.solid=true∧withV v'.cells fun cs=>cs.length=s∧∀p:Nat,σ p=none→K (.lit (.slice (some ⟨p,0,none⟩) 1 1)) A' (σ.upd p cs)
  else withO (aBuildSlice P t len (nodeOf parts A)) fun v=>K v A σ:=nr (by
 rw[o_buildSlice]
 split
 ·unfold aBuildObj withO
  generalize nodeOf parts A=nl
  generalize parts.toList=pl
  cases tElem P t with
  |none=>rfl
  |some e=>
   dsimp only
   split
   ·rename_i e' heq
    simp only[Option.some.injEq] at heq;subst heq;rfl
   ·rename_i e' x heq
    simp only[Option.some.injEq] at heq;subst heq
    cases tSize P e<;>rfl
   ·rename_i e' heq h1 h2
    simp only[Option.some.injEq] at heq;subst heq
    rw[lotOf_else _ h1 h2]
    cases aBuildSlice P t len nl with
    |none=>rfl
    |some v=>cases h:listCells v<;>simp only[h]
   ·rename_i h;cases h
 ·unfold withO;cases aBuildSlice P t len (nodeOf parts A)<;>rfl)
theorem p_makeMap0 (t:TypeId):aoper P st ⟨d, .makeMap t none,ty,ps,af,g⟩ A σ K=withO (tMap P t) fun _=>∀q:Nat,σ (mkey q)=none→K (.lit (.map (some q))) A (σ.put q (mapA [])):=nr (by
 rw[o_makeMap];simp only[aOth];unfold withO;cases tMap P t<;>rfl)
theorem p_makeMap1 (t:TypeId) (y:Operand):aoper P st ⟨d, .makeMap t (some y),ty,ps,af,g⟩ A σ K=withO (tMap P t) fun _=>withO (intIn (evalA A y)) fun _=>∀q:Nat,σ (mkey q)=none→K (.lit (.map (some q))) A (σ.put q (mapA [])):=nr (by
 rw[o_makeMap];simp only[aOth];unfold withO
 simp only[Option.map_some]
 cases tMap P t with
 |none=>rfl
 |some x=>cases evalA A y with
  |lit v=>cases v<;>rfl
  |_=>rfl)
theorem p_mapUpdate (t:TypeId) (m k x:Operand):aoper P st ⟨d, .mapUpdate t m k x,ty,ps,af,g⟩ A σ K=withO (tMap P t) fun ke=>withO (mapIn (evalA A m)) fun q=>withO (litIn (evalA A k)) fun kv=>withO (tKind P ke.1) fun d=>withO (σ (mkey q)) fun cs=>withO (kvsOf cs) fun kvs=>
  withO (setA d kvs kv (evalA A x).share) fun kvs'=>K .top A (σ.put q (mapA kvs')):=nr (by
 rw[o_mapUpdate];simp only[aOth];unfold withO
 cases tMap P t with
 |none=>rfl
 |some ke=>obtain ⟨kt,et⟩:=ke;cases evalA A m with
  |lit v=>cases v with
   |map r=>cases r with
    |none=>rfl
    |some q=>cases evalA A k with
     |lit kv=>
      simp only[mapIn,litIn]
      cases tKind P kt with
      |none=>rfl
      |some d=>cases σ (mkey q) with
       |none=>rfl
       |some cs=>simp only[Option.bind_some];cases kvsOf cs with
        |none=>rfl
        |some kvs=>dsimp only;cases setA d kvs kv (evalA A x).share<;>rfl
     |_=>rfl
   |_=>rfl
  |_=>rfl)
def getA (P:Program) (et:TypeId) (ok:Bool) (d:TypeDesc) (kv:Value) (kvs:List (Value×AV)):Option AV:=match findA d kv kvs 0 with
 |some (some (_,v))=>some (if ok=true then .tuple [v.drop1, .lit (.bool true)] else v.share)
 |some none=>(zeroV P et).map fun z=>if ok=true then .tuple [z.drop1, .lit (.bool false)] else z.share
 |none=>none
theorem p_lookup (t:TypeId) (m k:Operand) (ok:Bool):aoper P st ⟨d, .lookup t m k ok,ty,ps,af,g⟩ A σ K=withO (tMap P t) fun ke=>withO (mapIn (evalA A m)) fun q=>withO (litIn (evalA A k)) fun kv=>withO (tKind P ke.1) fun d=>withO (σ (mkey q)) fun cs=>withO (kvsOf cs) fun kvs=>
  withO (getA P ke.2 ok d kv kvs) fun v=>K v A σ:=nr (by
 rw[o_lookup];simp only[aOth];unfold withO
 cases tMap P t with
 |none=>rfl
 |some ke=>obtain ⟨kt,et⟩:=ke;cases evalA A m with
  |lit v=>cases v with
   |map r=>cases r with
    |none=>rfl
    |some q=>cases evalA A k with
     |lit kv=>
      simp only[mapIn,litIn]
      cases tKind P kt with
      |none=>rfl
      |some d=>cases σ (mkey q) with
       |none=>rfl
       |some cs=>simp only[Option.bind_some];cases kvsOf cs with
        |none=>rfl
        |some kvs=>
         dsimp only
         unfold getA
         cases findA d kv kvs 0 with
         |none=>rfl
         |some r=>cases r with
          |none=>dsimp only;cases zeroV P et<;>rfl
          |some x=>rfl
     |_=>rfl
   |_=>rfl
  |_=>rfl)
theorem p_range (t:TypeId) (x:Operand):aoper P st ⟨d, .range t x,ty,ps,af,g⟩ A σ K=if tStr P t=true then withO (strIn (evalA A x)) fun s=>∀q:Nat,σ (mkey q)=none→K (.lit (.pointer (some ⟨q,0,none⟩))) A (σ.put q (iterA s 0))
  else withO (tMap P t) fun _=>withO (mapIn (evalA A x)) fun m=>withO (σ (mkey m)) fun cs=>withO (kvsOf cs) fun kvs=>∀q:Nat,σ (mkey q)=none→K (.lit (.pointer (some ⟨q,0,none⟩))) A (σ.put q (miterA m kvs.length [])):=nr (by
 rw[o_range];simp only[aOth];unfold withO
 by_cases ht:tStr P t=true
 ·rw[if_pos ht,if_pos ht]
  cases evalA A x with
  |lit v=>cases v<;>simp[strIn]
  |_=>simp[strIn]
 ·rw[if_neg ht,if_neg ht]
  cases tMap P t with
  |none=>rfl
  |some ke=>cases evalA A x with
   |lit v=>cases v with
    |map r=>cases r with
     |none=>rfl
     |some q=>
      simp only[mapIn]
      cases σ (mkey q) with
      |none=>rfl
      |some cs=>simp only[Option.bind_some];cases kvsOf cs<;>rfl
    |_=>rfl
   |_=>rfl)
def mapNextK (g m n:Nat) (seen:List Nat) (kvs:List (Value×AV)) (σ:Store) (K:AV→Store→Prop):Prop:=
 kvs.length=n∧(∀(i:Nat) (kv:Value×AV),kvs[i]?=some kv→i∉seen→K (.tuple [.lit (.bool true), .lit kv.1,kv.2.drop1]) (σ.put g (miterA m n (seen++[i]))))∧((∀i,i<n→i∈seen)→K (.tuple [.lit (.bool false)]) σ)
theorem p_nextM (it:Operand):aoper P st ⟨d, .next it false,ty,ps,af,g⟩ A σ K=withO (ptrOf (evalA A it)) fun b=>b.2=0∧withO (σ (mkey b.1)) fun cs=>withO (miterOf cs) fun r=>withO (σ (mkey r.1)) fun cm=>withO (kvsOf cm) fun kvs=>
  mapNextK b.1 r.1 r.2.1 r.2.2 kvs σ fun v σ'=>K v A σ':=nr (by
 rw[o_next];simp only[aOth];unfold withO ptrOf
 cases evalA A it with
 |lit v=>cases v with
  |pointer a=>cases a with
   |none=>rfl
   |some a=>obtain ⟨blk,off,spot⟩:=a;cases spot with
    |some s=>cases off<;>rfl
    |none=>cases off with
     |succ o=>simp
     |zero=>
      simp only[true_and]
      cases σ (mkey blk) with
      |none=>rfl
      |some cs=>simp only[Option.bind_some];cases miterOf cs with
       |none=>rfl
       |some r=>obtain ⟨m,n,seen⟩:=r;dsimp only;cases σ (mkey m) with
        |none=>rfl
        |some cm=>simp only[Option.bind_some];cases kvsOf cm<;>rfl
  |_=>rfl
 |_=>rfl)
theorem p_entry (it:Operand):aoper P st ⟨d, .entry it,ty,ps,af,g⟩ A σ K=withO (ptrOf (evalA A it)) fun b=>b.2=0∧withO (σ (mkey b.1)) fun cs=>withO (miterOf cs) fun r=>withO (σ (mkey r.1)) fun cm=>withO (kvsOf cm) fun kvs=>
  kvs.length=r.2.1∧withO (r.2.2.getLast?.bind fun i=>kvs[i]?) fun kv=>K (.tuple [.lit kv.1,kv.2.drop1]) A σ:=nr (by
 rw[o_entry];simp only[aOth];unfold withO ptrOf
 cases evalA A it with
 |lit v=>cases v with
  |pointer a=>cases a with
   |none=>rfl
   |some a=>obtain ⟨blk,off,spot⟩:=a;cases spot with
    |some s=>cases off<;>rfl
    |none=>cases off with
     |succ o=>simp
     |zero=>
      simp only[true_and]
      cases σ (mkey blk) with
      |none=>rfl
      |some cs=>simp only[Option.bind_some];cases miterOf cs with
       |none=>rfl
       |some r=>obtain ⟨m,n,seen⟩:=r;dsimp only;cases σ (mkey m) with
        |none=>rfl
        |some cm=>simp only[Option.bind_some];cases kvsOf cm with
         |none=>rfl
         |some kvs=>dsimp only;cases (seen.getLast?.bind fun i=>kvs[i]?)<;>rfl
  |_=>rfl
 |_=>rfl)
theorem p_next (it:Operand):aoper P st ⟨d, .next it true,ty,ps,af,g⟩ A σ K=withO (ptrOf (evalA A it)) fun b=>b.2=0∧withO (σ (mkey b.1)) fun cs=>withO (iterOf cs) fun r=>
  if r.2<r.1.size then K (.tuple [.lit (.bool true), .lit (.int .i64 r.2), .lit (.int .i32 (Utf8.decode r.1 r.2).1)]) A (σ.put b.1 (iterA r.1 (r.2+(Utf8.decode r.1 r.2).2))) else K (.tuple [.lit (.bool false)]) A σ:=nr (by
 rw[o_next];simp only[aOth];unfold withO ptrOf
 cases evalA A it with
 |lit v=>cases v with
  |pointer a=>cases a with
   |none=>rfl
   |some a=>
    obtain ⟨b,off,sp⟩:=a
    cases sp with
    |some s=>cases off<;>rfl
    |none=>cases off with
     |zero=>
      dsimp only
      simp only[true_and]
      cases σ (mkey b) with
      |none=>rfl
      |some cs=>simp only[Option.bind_some];cases iterOf cs<;>rfl
     |succ off=>simp
  |_=>rfl
 |_=>rfl)
theorem p_makeSlice (t:TypeId) (x y:Operand):aoper P st ⟨d, .makeSlice t x y,ty,ps,af,g⟩ A σ K=aMake P (stealD st d) (objD st d) t (evalA A x) (evalA A y) A σ K:=nr rfl
theorem p_extract (t:Tmp) (ix:Nat):aoper P st ⟨d, .extract (.tmp t) ix,ty,ps,af,g⟩ A σ K=withO (tupleOf (A t)) fun vs=>withO (vs[ix]?) fun v=>withV v.keep1 fun v'=>withV (vs.set ix v.drop1) fun vs'=>K v' (upd A t (.tuple vs')) σ:=nr (by
 rw[o_extract];unfold aExtract;cases A t<;>kernel_rfl)
theorem p_nilCheck (x:Operand):aoper P st ⟨d, .nilCheck x,ty,ps,af,g⟩ A σ K=withO (aNilCheck (evalA A x)) fun v=>K v A σ:=nr (by kernel_rfl)
theorem p_binOp (op:BinOp) (t t':TypeId) (x y:Operand):aoper P st ⟨d, .binOp op t x y t',ty,ps,af,g⟩ A σ K=if isNilConst y=true then (match op with
      | .eql=>aNilTest P false t (evalA A x) A σ K
      | .neq=>aNilTest P true t (evalA A x) A σ K
      |_=>False) else withO (aBin P op t (evalA A x) (evalA A y)) fun v=>K v A σ:=nr (by kernel_rfl)
theorem p_unOp (op:UnOp) (t:TypeId) (x:Operand):aoper P st ⟨d, .unOp op t x,ty,ps,af,g⟩ A σ K=withO (match evalA A x with| .lit v=>(pureUn op v).map .lit|_=>none:Option AV) fun v=>K v A σ:=nr (by kernel_rfl)
theorem p_convert (src dst:TypeId) (x:Operand):aoper P st ⟨d, .convert src dst x,ty,ps,af,g⟩ A σ K=if src=dst then aConvSame P (stealD st d) src dst x A σ K else if objD st d=true then aConvRow P src dst (evalA A x) A σ K else withO (aConv P src dst (evalA A x)) fun v=>K v A σ:=nr (by kernel_rfl)
theorem p_fieldAddr (s:TypeId) (x:Operand) (f:Nat):aoper P st ⟨d, .fieldAddr s x f,ty,ps,af,g⟩ A σ K=withO (aFieldAddr P s f (evalA A x)) fun v=>K v A σ:=nr (by kernel_rfl)
theorem p_field (s:TypeId) (x:Operand) (f:Nat):aoper P st ⟨d, .field s x f,ty,ps,af,g⟩ A σ K=withO (aField P s f (evalA A x)) fun v=>withV v.share fun v'=>K v' A σ:=nr (by rw[o_field];kernel_rfl)
theorem p_indexAddr (t:TypeId) (x y:Operand):aoper P st ⟨d, .indexAddr t x y,ty,ps,af,g⟩ A σ K=withO (aIndexAddr P t (evalA A x) (evalA A y)) fun v=>K v A σ:=nr (by kernel_rfl)
theorem p_index (t:TypeId) (x y:Operand):aoper P st ⟨d, .index t x y,ty,ps,af,g⟩ A σ K=withO (aIndex P t (evalA A x) (evalA A y)) fun v=>withV v.share fun v'=>K v' A σ:=nr (by rw[o_index];kernel_rfl)
theorem p_slice (t:TypeId) (x:Operand) (lo hi mx:Option Operand):aoper P st ⟨d, .slice t x lo hi mx,ty,ps,af,g⟩ A σ K=if sliceD st d hi mx=true then aSliceOwn P t x (lo.map (evalA A)) A σ K else withO (aSlice P t (evalA A x) (lo.map (evalA A)) (hi.map (evalA A)) (mx.map (evalA A))) fun v=>K v A σ:=nr (by kernel_rfl)
theorem p_makeInterface (t:TypeId) (x:Operand):aoper P st ⟨d, .makeInterface t x,ty,ps,af,g⟩ A σ K=withO (match tIface P t with|some false=>some (.iface t (evalA A x).share)|_=>none:Option AV) fun v=>K v A σ:=nr (by kernel_rfl)
theorem p_makeFunc (fn:Fn) (fs cs:Array Operand):aoper P st ⟨d, .makeFunc fn fs cs,ty,ps,af,g⟩ A σ K=withV (AV.func fn (fs.toList.map fun x=>(evalA A x).share) (cs.toList.map fun x=>(evalA A x).share)) fun v=>K v A σ:=nr rfl
theorem p_build (t:TypeId) (parts:Array (Nat×Operand)):aoper P st ⟨d, .build t parts,ty,ps,af,g⟩ A σ K=if objD st d=true then withO (if tParts P t=true then azeroB P (rawD st d) t else none) fun zs=>fillTake P t parts.toList zs A fun cs A'=>K (.agg cs) A' σ else withO (aBuild P t ((nodeOf parts A).map fun p=>(p.1,conv P (((tField P t p.1).map (·.2)).getD (((tArr P t).map (·.2)).getD 0)) p.2.share))) fun v=>K v A σ:=nr (by
 rw[o_build]
 split
 ·unfold aBuildTake withO
  cases tParts P t<;>cases azeroB P (rawD st d) t<;>rfl
 ·unfold withO;cases aBuild P t _<;>rfl)
def lenM (σ:Store) (a:AV):Option Int:=match a with
 | .lit (.map none)=>some 0
 | .lit (.map (some g))=>((σ (mkey g)).bind kvsOf).map fun kvs=>(kvs.length:Int)
 |_=>none
@[simp] theorem lenM_none (σ:Store):lenM σ (.lit (.map none))=some 0:=nr rfl
@[simp] theorem lenM_some (σ:Store) (g:Nat):lenM σ (.lit (.map (some g)))=((σ (mkey g)).bind kvsOf).map fun kvs=>(kvs.length:Int):=nr rfl
theorem p_len (x:Operand) (t:TypeId):aoper P st ⟨d, .call ⟨.builtin .len, #[x], #[t]⟩,ty,ps,af,g⟩ A σ K=if objD st d=true then withO (tMap P t) fun _=>withO (lenM σ (evalA A x)) fun n=>K (.lit (.int .i64 n)) A σ else withO (aLen P t (evalA A x)) fun v=>K v A σ:=nr (by
 rw[o_len]
 split
 ·unfold aMapLen withO
  cases tMap P t with
  |none=>rfl
  |some ke=>cases evalA A x with
   |lit v=>cases v with
    |map r=>cases r with
     |none=>rfl
     |some q=>
      simp only[lenM]
      cases σ (mkey q) with
      |none=>rfl
      |some cs=>simp only[Option.bind_some];cases kvsOf cs<;>rfl
    |_=>rfl
   |_=>rfl
 ·unfold withO;cases aLen P t (evalA A x)<;>rfl)
theorem p_min (x y:Operand) (ts:Array TypeId):aoper P st ⟨d, .call ⟨.builtin .min, #[x,y],ts⟩,ty,ps,af,g⟩ A σ K=withO (aMin (evalA A x) (evalA A y)) fun v=>K v A σ:=nr (by kernel_rfl)
theorem p_max (x y:Operand) (ts:Array TypeId):aoper P st ⟨d, .call ⟨.builtin .max, #[x,y],ts⟩,ty,ps,af,g⟩ A σ K=withO (aMax (evalA A x) (evalA A y)) fun v=>K v A σ:=nr (by kernel_rfl)
theorem p_append (x y:Operand) (t:TypeId):aoper P st ⟨d, .call ⟨.builtin .append, #[x,y], #[t,t]⟩,ty,ps,af,g⟩ A σ K=if objD st d=true then (if isRow (evalA A y)=true then withO (tElem P t) fun e=>withO (tSize P e) fun sz=>withO (tBytes P e) fun bt=>withO (rowAV σ sz (evalA A y)) fun q=>
      isVoid (evalA A x)=true∧0<sz∧tZeroSize P e=some sz∧0<q.1∧q.1≤maxLen∧q.1*bt≤140737488355328∧(∀c∈q.2,c.plain1=true)∧∀p:Nat,σ p=none→withV q.2 fun cs=>K (.row p q.1) A (σ.upd p cs)
  else withO (tElem P t) fun e=>withO (tSize P e) fun sz=>withO (tBytes P e) fun bt=>withO (rowOf σ sz (evalA A x)) fun r=>withO (srcOf σ sz (evalA A y)) fun q=>
  0<sz∧tZeroSize P e=some sz∧tZeroOk P e=true∧(r.1.isSome=true→r.1≠q.1)∧r.2.2+q.2.2≤maxLen∧(r.2.2+q.2.2)*bt≤140737488355328∧(q.2.2=0→withV (evalA A x) fun v=>K v A σ)∧
   (0<q.2.2→∀(p:Nat) cap,(r.1=some p∨σ p=none)→r.2.2+q.2.2≤cap→cap≤maxLen→withV (r.2.1++q.2.1++List.replicate ((cap-(r.2.2+q.2.2))*sz) .top) fun cs=>K (.lit (.slice (some ⟨p,0,none⟩) (r.2.2+q.2.2) cap)) A (((σ.delO r.1).delO q.1).upd p cs)))
  else withO (tElem P t) fun e=>withO (tSize P e) fun sz=>withO (tBytes P e) fun bt=>withO (srcA sz (evalA A y)) fun ws=>
  takeA A x fun v A'=>withO (ownOf sz (conv P t v)) fun vs=>0<sz∧tZeroSize P e=some sz∧vs.length+ws.length≤maxLen∧(vs.length+ws.length)*bt≤140737488355328∧withV (vs++ws) fun us=>K (.list true sz us) A' σ:=nr (by
 rw[o_append]
 split
 ·split
  ·unfold aAppendRow withO
   cases tElem P t with
   |none=>rfl
   |some e=>
    dsimp only
    cases tSize P e with
    |none=>rfl
    |some sz=>
     cases tBytes P e with
     |none=>rfl
     |some bt=>
      dsimp only
      cases rowAV σ sz (evalA A y) with
      |none=>rfl
      |some r=>rfl
  unfold aAppendObj withO
  cases tElem P t with
  |none=>rfl
  |some e=>
   dsimp only
   cases tSize P e with
   |none=>rfl
   |some sz=>
    cases tBytes P e with
    |none=>rfl
    |some bt=>
     dsimp only
     cases rowOf σ sz (evalA A x) with
     |none=>rfl
     |some r=>
      cases srcOf σ sz (evalA A y) with
      |none=>rfl
      |some q=>rfl
 unfold aAppend withO
 cases tElem P t with
 |none=>rfl
 |some e=>
  dsimp only
  cases hs:tSize P e with
  |none=>rfl
  |some sz=>
   cases hb:tBytes P e with
   |none=>rfl
   |some bt=>
    dsimp only
    cases srcA sz (evalA A y) with
    |none=>rfl
    |some ws=>
     dsimp only
     congr 1
     funext v A'
     cases conv P t v with
     |list own sz' vs=>
      cases own with
      |false=>simp[ownOf]
      |true=>
       by_cases h:sz'=sz
       ·subst h;simp[ownOf,withV]
       ·simp[ownOf,h]
     |_=>rfl)
theorem p_appendS (x y:Operand) (t t':TypeId) (hne:¬t=t'):aoper P st ⟨d, .call ⟨.builtin .append, #[x,y], #[t,t']⟩,ty,ps,af,g⟩ A σ K=withO (tElem P t) fun e=>withO (tSize P e) fun sz=>withO (tBytes P e) fun bt=>withO (strA P t' (evalA A y)) fun b=>
  takeA A x fun v A'=>withO (ownOf sz (conv P t v)) fun vs=>sz=1∧tZeroSize P e=some sz∧vs.length+b.size≤maxLen∧(vs.length+b.size)*bt≤140737488355328∧withV (vs++bytesV b) fun us=>K (.list true sz us) A' σ:=nr (by
 rw[o_appendS P st d ty ps af g A σ K x y t t' hne]
 unfold aAppendStr withO
 cases tElem P t with
 |none=>rfl
 |some e=>
  dsimp only
  cases hs:tSize P e with
  |none=>rfl
  |some sz=>
   cases hb:tBytes P e with
   |none=>rfl
   |some bt=>
    dsimp only
    cases strA P t' (evalA A y) with
    |none=>rfl
    |some ws=>
     dsimp only
     congr 1
     funext v A'
     cases conv P t v with
     |list own sz' vs=>
      cases own with
      |false=>simp[ownOf]
      |true=>
       by_cases h:sz'=sz
       ·subst h;simp[ownOf,withV]
       ·simp[ownOf,h]
     |_=>rfl)
theorem p_copy (x y:Operand) (t t':TypeId):aoper P st ⟨d, .call ⟨.builtin .copy, #[x,y], #[t,t']⟩,ty,ps,af,g⟩ A σ K=withO ((tElem P t).bind (tSize P)) fun sz=>withO (copyDst σ (evalA A x)) fun r=>withO (copySrc σ (evalA A y)) fun src=>
  sz=1∧withV (min r.2.2.1 src.length) fun m=>r.2.1+m≤r.2.2.2.length∧withV (setRange r.2.2.2 r.2.1 ((src.take m).map AV.drop1)) fun cs=>K (.lit (.int .i64 m)) A (σ.upd r.1 cs):=nr (by
 rw[o_copy];unfold aCopy withO withV
 cases (tElem P t).bind (tSize P) with
 |none=>rfl
 |some sz=>cases copyDst σ (evalA A x) with
  |none=>rfl
  |some r=>cases copySrc σ (evalA A y)<;>rfl)
theorem p_call (f:Operand) (args:Array Operand) (ts:Array TypeId):aoper P st ⟨d, .call ⟨.value f,args,ts⟩,ty,ps,af,g⟩ A σ K=withO (funcOf (evalA A f)) fun q=>
  takeArgs P args.toList (callTys (objD st d) ts.toList) A fun vs A'=>withV (q.2.1.map AV.share++vs++q.2.2.map AV.share) fun as=>if callable P q.1=true then callK P q.1 as σ fun v σ'=>K v A' σ' else extK P q.1 as σ fun v σ'=>K v A' σ':=nr (by
 rw[o_call]
 cases evalA A f with
 |func fn fs cs=>cases fn<;>kernel_rfl
 |_=>rfl)
variable (K2:AV→Slots→Prop) (K3:List AV→Slots→Prop)
theorem t_tmp (t:Tmp):takeA A (.tmp t) K2=withV (A t) fun v=>withV v.share fun v'=>K2 v (upd A t v'):=nr rfl
theorem t_const (c:Value):takeA A (.const c) K2=K2 (.lit c) A:=nr rfl
theorem t_global (c:Nat):takeA A (.global c) K2=K2 (globA c) A:=nr rfl
theorem t_func (c:FuncId):takeA A (.func c) K2=K2 (.func (.func c) [] []) A:=nr rfl
theorem f_nil (t:TypeId) (cs:List AV):fillTake P t [] cs A K3=K3 cs A:=nr rfl
theorem f_cons (t:TypeId) (i:Nat) (x:Operand) (rest:List (Nat×Operand)) (cs:List AV):fillTake P t ((i,x)::rest) cs A K3=withO (tPart P t i) fun q=>takeA A x fun v A'=>withV (conv P (pty P t i) v) fun v'=>v'.solid=true∧withV v'.cells fun us=>us.length=q.2∧q.1+q.2≤cs.length∧withV (setRange cs q.1 us) fun cs'=>fillTake P t rest cs' A' K3:=nr (by
 simp only[fillTake]
 cases tPart P t i<;>rfl)
theorem t_nil (ts:List TypeId):takeArgs P [] ts A K3=K3 [] A:=nr rfl
theorem t_cons (x:Operand) (xs:List Operand) (ts:List TypeId):takeArgs P (x::xs) ts A K3=takeA A x fun v A'=>withV (conv P (ts.headD 0) v) fun v'=>takeArgs P xs ts.tail A' fun vs A''=>K3 (v'::vs) A'':=nr rfl
end
attribute [simp ↓] w_seq w_skip w_label w_exit w_goto w_ret w_block w_cond w_region w_draw w_loop w_rangeFunc w_scope w_then_normal w_then_ret w_then_exit w_then_goto w_block_normal w_block_ret w_block_exit w_block_goto w_aret_normal w_aret_ret r_nil r_cons r_estep r_done r_step r_alt r_seq_nil r_seq_cons r_plain r_plain0 r_guard r_guard0 p_move_tmp p_move_const p_assign_tmp p_assign_const p_pick p_load p_alloc p_box p_store p_buildSlice p_makeMap0 p_makeMap1 p_mapUpdate p_lookup p_range p_next p_nextM p_entry p_makeSlice p_extract p_nilCheck p_binOp p_unOp p_convert p_fieldAddr p_field p_indexAddr p_index p_slice p_makeInterface p_makeFunc p_build p_len p_min p_max p_append p_appendS p_copy p_call t_tmp t_const t_global t_func t_nil t_cons f_nil f_cons
end Go.AL
namespace Go.AL
open Go
variable [GL]
set_option linter.unusedSectionVars false
@[simp] theorem drop1_top:(AV.top).drop1= .top:=nr rfl
@[simp] theorem share_top:(AV.top).share= .top:=nr rfl
@[simp] theorem keep1_top:(AV.top).keep1= .top:=nr rfl
@[simp] theorem cells_top:(AV.top).cells=[.top]:=nr rfl
@[simp] theorem one_top:(AV.top).one=false:=nr rfl
@[simp] theorem solid_top:(AV.top).solid=false:=nr rfl
@[simp] theorem conv_top (P:Program) (t:TypeId):conv P t (.top)= .top:=nr rfl
@[simp] theorem drop1_lit (v:Value):(AV.lit v).drop1= .lit v:=nr rfl
@[simp] theorem share_lit (v:Value):(AV.lit v).share= .lit v:=nr rfl
@[simp] theorem keep1_lit (v:Value):(AV.lit v).keep1= .lit v:=nr rfl
@[simp] theorem cells_lit (v:Value):(AV.lit v).cells=[.lit v]:=nr rfl
@[simp] theorem one_lit (v:Value):(AV.lit v).one=v.oneCell':=nr rfl
@[simp] theorem solid_lit (v:Value):(AV.lit v).solid=v.oneCell':=nr rfl
@[simp] theorem drop1_list (o:Bool) (sz:Nat) (vs:List AV):(AV.list o sz vs).drop1= .list false sz vs:=nr rfl
@[simp] theorem share_list (o:Bool) (sz:Nat) (vs:List AV):(AV.list o sz vs).share= .list false sz vs:=nr rfl
@[simp] theorem keep1_list (o:Bool) (sz:Nat) (vs:List AV):(AV.list o sz vs).keep1= .list o sz vs:=nr rfl
@[simp] theorem cells_list (o:Bool) (sz:Nat) (vs:List AV):(AV.list o sz vs).cells=[.list o sz vs]:=nr rfl
@[simp] theorem one_list (o:Bool) (sz:Nat) (vs:List AV):(AV.list o sz vs).one=true:=nr rfl
@[simp] theorem solid_list (o:Bool) (sz:Nat) (vs:List AV):(AV.list o sz vs).solid=true:=nr rfl
@[simp] theorem conv_list (P:Program) (t:TypeId) (o:Bool) (sz:Nat) (vs:List AV):conv P t (.list o sz vs)= .list o sz vs:=nr rfl
@[simp] theorem drop1_fptr (cs:List AV):(AV.fptr cs).drop1= .fptr cs:=nr rfl
@[simp] theorem share_fptr (cs:List AV):(AV.fptr cs).share= .fptr cs:=nr rfl
@[simp] theorem keep1_fptr (cs:List AV):(AV.fptr cs).keep1= .fptr cs:=nr rfl
@[simp] theorem cells_fptr (cs:List AV):(AV.fptr cs).cells=[.fptr cs]:=nr rfl
@[simp] theorem one_fptr (cs:List AV):(AV.fptr cs).one=true:=nr rfl
@[simp] theorem solid_fptr (cs:List AV):(AV.fptr cs).solid=true:=nr rfl
@[simp] theorem conv_fptr (P:Program) (t:TypeId) (cs:List AV):conv P t (.fptr cs)= .fptr cs:=nr rfl
@[simp] theorem drop1_func (fn:Fn) (f c:List AV):(AV.func fn f c).drop1= .func fn f c:=nr rfl
@[simp] theorem share_func (fn:Fn) (f c:List AV):(AV.func fn f c).share= .func fn f c:=nr rfl
@[simp] theorem keep1_func (fn:Fn) (f c:List AV):(AV.func fn f c).keep1= .func fn f c:=nr rfl
@[simp] theorem cells_func (fn:Fn) (f c:List AV):(AV.func fn f c).cells=[.func fn f c]:=nr rfl
@[simp] theorem one_func (fn:Fn) (f c:List AV):(AV.func fn f c).one=true:=nr rfl
@[simp] theorem solid_func (fn:Fn) (f c:List AV):(AV.func fn f c).solid=true:=nr rfl
@[simp] theorem conv_func (P:Program) (t:TypeId) (fn:Fn) (f c:List AV):conv P t (.func fn f c)= .func fn f c:=nr rfl
@[simp] theorem drop1_iface (t:TypeId) (a:AV):(AV.iface t a).drop1= .iface t a:=nr rfl
@[simp] theorem share_iface (t:TypeId) (a:AV):(AV.iface t a).share= .iface t a:=nr rfl
@[simp] theorem keep1_iface (t:TypeId) (a:AV):(AV.iface t a).keep1= .iface t a:=nr rfl
@[simp] theorem cells_iface (t:TypeId) (a:AV):(AV.iface t a).cells=[.iface t a]:=nr rfl
@[simp] theorem one_iface (t:TypeId) (a:AV):(AV.iface t a).one=true:=nr rfl
@[simp] theorem solid_iface (t:TypeId) (a:AV):(AV.iface t a).solid=true:=nr rfl
@[simp] theorem conv_iface (P:Program) (_t:TypeId) (t:TypeId) (a:AV):conv P t (.iface t a)= .iface t a:=nr rfl
@[simp] theorem drop1_agg (cs:List AV):(AV.agg cs).drop1= .agg cs:=nr rfl
@[simp] theorem share_agg (cs:List AV):(AV.agg cs).share= .agg (cs.map AV.drop1):=nr rfl
@[simp] theorem keep1_agg (cs:List AV):(AV.agg cs).keep1= .agg (cs.map AV.drop1):=nr rfl
@[simp] theorem cells_agg (cs:List AV):(AV.agg cs).cells=cs:=nr rfl
@[simp] theorem one_agg (cs:List AV):(AV.agg cs).one=false:=nr rfl
@[simp] theorem solid_agg (cs:List AV):(AV.agg cs).solid=true:=nr rfl
@[simp] theorem conv_agg (P:Program) (t:TypeId) (cs:List AV):conv P t (.agg cs)= .agg cs:=nr rfl
@[simp] theorem drop1_tuple (vs:List AV):(AV.tuple vs).drop1= .tuple vs:=nr rfl
@[simp] theorem share_tuple (vs:List AV):(AV.tuple vs).share= .tuple (vs.map AV.drop1):=nr rfl
@[simp] theorem keep1_tuple (vs:List AV):(AV.tuple vs).keep1= .tuple (vs.map AV.drop1):=nr rfl
@[simp] theorem cells_tuple (vs:List AV):(AV.tuple vs).cells=[.tuple vs]:=nr rfl
@[simp] theorem one_tuple (vs:List AV):(AV.tuple vs).one=false:=nr rfl
@[simp] theorem solid_tuple (vs:List AV):(AV.tuple vs).solid=false:=nr rfl
@[simp] theorem conv_tuple (P:Program) (t:TypeId) (vs:List AV):conv P t (.tuple vs)= .tuple vs:=nr rfl
@[simp] theorem drop1_row (p n:Nat):(AV.row p n).drop1= .row p n:=nr rfl
@[simp] theorem share_row (p n:Nat):(AV.row p n).share= .row p n:=nr rfl
@[simp] theorem keep1_row (p n:Nat):(AV.row p n).keep1= .row p n:=nr rfl
@[simp] theorem cells_row (p n:Nat):(AV.row p n).cells=[.row p n]:=nr rfl
@[simp] theorem one_row (p n:Nat):(AV.row p n).one=true:=nr rfl
@[simp] theorem solid_row (p n:Nat):(AV.row p n).solid=true:=nr rfl
@[simp] theorem conv_row (P:Program) (t:TypeId) (p n:Nat):conv P t (.row p n)= .row p n:=nr rfl
@[simp] theorem conv_lit_int (P:Program) (t:TypeId) (k:IntKind) (n:Int):conv P t (.lit (.int k n))= .lit (.int k n):=nr rfl
@[simp] theorem conv_lit_bool (P:Program) (t:TypeId) (b:Bool):conv P t (.lit (.bool b))= .lit (.bool b):=nr rfl
@[simp] theorem conv_lit_string (P:Program) (t:TypeId) (b:ByteArray):conv P t (.lit (.string b))= .lit (.string b):=nr rfl
@[simp] theorem conv_lit_pointer (P:Program) (t:TypeId) (a:Option Addr):conv P t (.lit (.pointer a))= .lit (.pointer a):=nr rfl
@[simp] theorem conv_lit_map (P:Program) (t:TypeId) (r:Option Nat):conv P t (.lit (.map r))= .lit (.map r):=nr rfl
@[simp] theorem conv_lit_nilFunc (P:Program) (t:TypeId):conv P t (.lit (.nilFunc))= .lit (.nilFunc):=nr rfl
@[simp] theorem conv_lit_nilIface (P:Program) (t:TypeId):conv P t (.lit (.nilIface))= .lit (.nilIface):=nr rfl
@[simp] theorem conv_lit_slice (P:Program) (t:TypeId) (a:Addr) (n c:Nat):conv P t (.lit (.slice (some a) n c))= .lit (.slice (some a) n c):=nr rfl
@[simp] theorem conv_nil (P:Program) (t:TypeId):conv P t (.lit (.slice none 0 0))=match (tElem P t).bind (tSize P) with|some s=> .list true s []|none=> .lit (.slice none 0 0):=nr rfl
@[simp] theorem upd_apply (A:Slots) (i j:Nat) (v:AV):upd A i v j=if j=i then v else A j:=nr rfl
@[simp] theorem slotsOf_zero (a:AV) (as:List AV):slotsOf (a::as) 0=a:=nr rfl
@[simp] theorem slotsOf_succ (a:AV) (as:List AV) (i:Nat):slotsOf (a::as) (i+1)=slotsOf as i:=nr rfl
@[simp] theorem slotsOf_nil (i:Nat):slotsOf [] i= .top:=nr rfl
@[simp] theorem supd_apply (σ:Store) (o p:Nat) (cs:List AV):σ.upd o cs (p:Int)=if p=o then some cs else σ p:=nr (upd_nat ..)
attribute [-simp] upd_nat del_nat upd_mkey put_nat put_mkey del_mkey
@[simp] theorem supd_mkey (σ:Store) (o g:Nat) (cs:List AV):(σ.upd o cs) (mkey g)=σ (mkey g):=nr (upd_mkey ..)
@[simp] theorem sput_apply (σ:Store) (o g:Nat) (cs:List AV):(σ.put g cs) (o:Int)=σ o:=nr (put_nat ..)
@[simp] theorem sput_mkey (σ:Store) (h g:Nat) (cs:List AV):(σ.put g cs) (mkey h)=if h=g then some cs else σ (mkey h):=nr (put_mkey ..)
@[simp] theorem sput_sput (σ:Store) (g:Nat) (x y:List AV):(σ.put g x).put g y=σ.put g y:=by
 funext p;simp only[Store.put];split<;>rfl
@[simp] theorem sput_upd (σ:Store) (g o:Nat) (x y:List AV):(σ.put g x).upd o y=(σ.upd o y).put g x:=by
 funext p;simp only[Store.put,Store.upd];repeat' split
 all_goals first|rfl|(exfalso;rename_i h1 h2;rw[h1] at h2;first|exact mkey_ne _ _ h2|exact mkey_ne _ _ h2.symm)
end Go.AL
namespace Go.AL
open Go
variable [GL]
set_option linter.unusedSectionVars false
attribute [simp] AV.le_refl Store.sub_refl Slots.le_none AV.le_top
@[simp] theorem sub_upd_self (σ:Store) (p:Nat) (cs:List AV) (h:σ p=none):Store.sub σ (σ.upd p cs):=Store.sub_upd h (Store.sub_refl σ)
theorem maxLen_val:maxLen=9223372036854775807:=by decide
attribute [simp] maxLen_val
end Go.AL
namespace Go.AL
open Go
variable [GL]
set_option linter.unusedSectionVars false
@[simp] theorem supd_supd (σ:Store) (o:Nat) (x y:List AV):(σ.upd o x).upd o y=σ.upd o y:=by
 funext p;simp only[Store.upd];split<;>rfl
theorem Store.ext2 {σ τ:Store} (h:∀p:Nat,σ p=τ p) (hm:∀g,σ (mkey g)=τ (mkey g)):σ=τ:=by
 funext k
 cases k with
 |ofNat p=>exact h p
 |negSucc g=>exact hm g
theorem Store.sub2 {σ τ:Store} (h:∀p:Nat,σ p=none∨σ p=τ p) (hm:∀g,σ (mkey g)=none∨σ (mkey g)=τ (mkey g)):Store.sub σ τ:=by
 intro k
 cases k with
 |ofNat p=>exact h p
 |negSucc g=>exact hm g
theorem sub_eq {σ:Store} {o:Nat} {x y:List AV} (h:x=y):Store.sub (σ.upd o x) (σ.upd o y):=h▸Store.sub_refl _
theorem supd_swap (σ:Store) {o p:Nat} (h:o≠p) (x y:List AV):(σ.upd o x).upd p y=(σ.upd p y).upd o x:=by
 funext q;simp only[Store.upd]
 split
 ·rename_i h1;rw[if_neg (fun h2=>h (Int.ofNat.inj (h2.symm.trans h1)))]
 ·rfl
theorem sub_box {σ:Store} {o p:Nat} {x y z:List AV} (hp:σ p=none) (_ho:o≠p) (h:x=y):Store.sub (σ.upd o x) ((σ.upd p z).upd o y):=by
 subst h
 intro q
 by_cases h1:q=o
 ·subst h1;exact .inr (by simp[Store.upd])
 ·by_cases h2:q=p
  ·subst h2;exact .inl (by simp[Store.upd,h1,hp])
  ·exact .inr (by simp[Store.upd,h1,h2])
end Go.AL
namespace Go.AL
variable [GL]
set_option linter.unusedSectionVars false
attribute [simp] AllLe AllLe1 AV.le1_refl AV.le1_list AV.le_agg AV.le_tuple AV.le_list AV.le1_top
end Go.AL
namespace Go.AL
variable [GL]
set_option linter.unusedSectionVars false
@[simp] theorem del_apply (σ:Store) (o p:Nat):σ.del o (p:Int)=if p=o then none else σ p:=nr (del_nat ..)
@[simp] theorem sdel_mkey (σ:Store) (o g:Nat):(σ.del o) (mkey g)=σ (mkey g):=nr (del_mkey ..)
@[simp] theorem delO_some (σ:Store) (o:Nat):σ.delO (some o)=σ.del o:=nr rfl
@[simp] theorem delO_no (σ:Store):σ.delO none=σ:=nr rfl
end Go.AL
namespace Go.AL
variable [GL]
set_option linter.unusedSectionVars false
@[simp ↓] theorem load1 (cs:List AV) (off:Nat):(if off+1≤cs.length then mkAV false (List.take 1 (List.drop off cs)) else none)=cs[off]?:=by
 by_cases h:off<cs.length
 ·rw[if_pos (show off+1≤cs.length from h),List.drop_eq_getElem_cons h,List.getElem?_eq_getElem h];rfl
 ·rw[if_neg (by omega),List.getElem?_eq_none (by omega)]
end Go.AL
namespace Go.AL
variable [GL]
set_option linter.unusedSectionVars false
theorem ite_none {α:Type} {c:Prop} [Decidable c] (x:α) (y:Option α):(if c then some x else y)=none↔¬c∧y=none:=by split<;>simp_all
end Go.AL
namespace Go.AL
variable [GL]
set_option linter.unusedSectionVars false
@[simp] theorem lookup_ne {β:Type} {a k:Nat} (b:β) (es:List (Nat×β)) (h:¬a=k):List.lookup a ((k,b)::es)=List.lookup a es:=by
 have:(a==k)=false:=by simpa using h
 simp[List.lookup,this]
end Go.AL
namespace Go.AL
variable [GL]
set_option linter.unusedSectionVars false
@[simp] theorem toNat_add2 (i:Nat):((i:Int)+2).toNat=i+2:=by omega
@[simp] theorem toNat_add3 (i:Nat):((i:Int)+3).toNat=i+3:=by omega
@[simp] theorem toNat_add4 (i:Nat):((i:Int)+4).toNat=i+4:=by omega
@[simp] theorem toNat_add5 (i:Nat):((i:Int)+5).toNat=i+5:=by omega
end Go.AL
