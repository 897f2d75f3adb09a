/-
 The abstract-state logic: structs built of their parts; the operations that leave the state alone, under one name.
-/
import Derived.Test.YtjnopnpkfhopbaaGreatDoorALPart1
set_option linter.unusedSimpArgs false
set_option linter.unusedVariables false
set_option maxRecDepth 8000
set_option maxHeartbeats 8000000
namespace Go.AL
open Go Go.RowKit Classical
variable [GL]
set_option linter.unusedSectionVars false
theorem conv_plainlit {P:Program} {t:TypeId} {F:Frz} {v:Value} :VR F (conv P t (.lit v)) v:=conv_VR (.lit v)
theorem azero_sound {P:Program} {t:TypeId} {zs:List AV} (h:azero P t=some zs) (F:Frz):∃z,tZero P t=some z∧CellsR (VRn F) zs z.cells.toList:=by
 unfold azero at h
 cases hz:tZero P t with
 |none=>simp[hz] at h
 |some z=>
  simp only[hz,Option.bind_some] at h
  split at h
  case isFalse=>simp at h
  rename_i hall
  simp at h;subst h
  refine ⟨z,rfl,by simp,fun i u hu=>List.all_eq_true.1 hall u (List.mem_of_getElem? hu),fun i c u hc hu=> ?_⟩
  rw[List.getElem?_map,List.getElem?_zipIdx] at hc
  rw[hu] at hc
  simp at hc;subst hc
  refine ⟨conv_plainlit, ?_⟩
  unfold conv
  split
  ·rename_i heq;simp only[AV.lit.injEq] at heq;exact .inr heq
  ·exact .inl rfl
def azeroB (P:Program) (raw:Bool) (t:TypeId):Option (List AV):=
 if raw=true then (tZero P t).bind fun z=>if z.cells.toList.all Value.oneCell' then some (z.cells.toList.map .lit) else none else azero P t
theorem azeroB_sound {P:Program} {raw:Bool} {t:TypeId} {zs:List AV} (h:azeroB P raw t=some zs) (F:Frz):∃z,tZero P t=some z∧CellsR (VRn F) zs z.cells.toList:=by
 unfold azeroB at h
 split at h
 case isFalse=>exact azero_sound h F
 cases hz:tZero P t with
 |none=>simp[hz] at h
 |some z=>
  simp only[hz,Option.bind_some] at h
  split at h
  case isFalse=>simp at h
  rename_i hall
  simp at h;subst h
  refine ⟨z,rfl,by simp,fun i u hu=>List.all_eq_true.1 hall u (List.mem_of_getElem? hu),fun i c u hc hu=> ?_⟩
  rw[List.getElem?_map,hu] at hc
  simp at hc;subst hc
  exact ⟨.lit _, .inl rfl⟩
theorem mapM_sizes {P:Program} (w:World):∀(l:List Field),(∀f∈l,(tSize P f.type).isSome=true)→(l.mapM fun f=>(do pure (f.offset,←sizeOf f.type):Sem (Nat×Nat))).run P w= .ok (l.map fun f=>(f.offset,(tSize P f.type).getD 0)) w
 |[],_=>rfl
 |f::l,h=>by
  obtain ⟨s,hs⟩:=Option.isSome_iff_exists.1 (h f (by simp))
  have ih:=mapM_sizes w l (fun g hg=>h g (by simp[hg]))
  simp only[List.mapM_cons,Sem.run_bind,run_sizeOf hs,Result.andThen_ok,Sem.run_pure,ih]
  simp[hs]
theorem build_sound {P:Program} {F:Frz} {w:World} {t:TypeId} {parts:List (Nat×AV)} {parts':List (Nat×Value)} {v:AV} (h:aBuild P t parts=some v) (hl:parts.length=parts'.length)
  (hv:∀(i:Nat) p q,parts[i]?=some p→parts'[i]?=some q→p.1=q.1∧(p.2.solid=true→CellsR (VRn F) p.2.cells q.2.cells.toList)):∃cv,(Instr.build t parts'.toArray).run P w= .ok cv w∧VR F v cv∧∀(G:Ghost) D r,OwnAt G D r v cv:=by
 unfold aBuild at h
 split at h
 case h_2=>simp at h
 rename_i zs hb hz
 obtain ⟨z,hz1,hz2⟩:=azero_sound hz F
 cases hr:fillA P t zs parts with
 |none=>simp[hr] at h
 |some r=>
  simp[hr] at h;subst h
  unfold tParts at hb
  cases hu:P.underlying t with
  |none=>simp[hu] at hb
  |some d=>
   cases d with
   |struct fs=>
    have hplace:∀i p,tPart P t i=some p→((fs.toList.map fun f=>(f.offset,(tSize P f.type).getD 0)).toArray[·]?) i=some p:=by
     intro i p hp
     have ha:tArr P t=none:=by simp[tArr,hu]
     simp only[tPart,ha,tField,hu,Option.bind_some] at hp
     cases hf:fs[i]? with
     |none=>simp[hf] at hp
     |some f=>
      simp[hf] at hp
      obtain ⟨s,hs,rfl⟩:=hp
      simp[hf,hs]
    obtain ⟨us',h1,h2⟩:=fill_sound hplace parts parts' zs z.cells r hl hv hz2 hr
    have hm:=mapM_sizes (P:=P) w fs.toList (by intro f hf;simp only[hu,Option.any_some] at hb;exact List.all_eq_true.1 hb f hf)
    refine ⟨.agg us', ?_, .agg _ _ (by simpa using h2.1) (fun i u hu'=>h2.2.1 i u (by simpa using hu')) fun i c u hc hu'=>(h2.2.2 i c u hc (by simpa using hu')).1,fun G D ρ j c u hc hu'=>(h2.2.2 j c u hc (by simpa using hu')).own ..⟩
    have hm':(fs.mapM fun f=>(do pure (f.offset,←sizeOf f.type):Sem (Nat×Nat))).run P w= .ok (fs.toList.map fun f=>(f.offset,(tSize P f.type).getD 0)).toArray w:=by
     rw[Array.mapM_eq_mapM_toList,Sem.run_map,hm]
     rfl
    simp only[Instr.build,Sem.run_bind,run_zeroValue hz1,Result.andThen_ok,run_underlying hu,hm',h1]
    simp
   |array n e=>
    have ha:tArr P t=some (n,e):=by simp[tArr,hu]
    cases hs:tSize P e with
    |none=>simp[hu,hs] at hb
    |some s=>
     have hplace:∀i p,tPart P t i=some p→(fun i=>some (i*s,s)) i=some p:=by
      intro i p hp;simpa[tPart,ha,hs] using hp
     obtain ⟨us',h1,h2⟩:=fill_sound hplace parts parts' zs z.cells r hl hv hz2 hr
     refine ⟨.agg us', ?_, .agg _ _ (by simpa using h2.1) (fun i u hu'=>h2.2.1 i u (by simpa using hu')) fun i c u hc hu'=>(h2.2.2 i c u hc (by simpa using hu')).1,fun G D ρ j c u hc hu'=>(h2.2.2 j c u hc (by simpa using hu')).own ..⟩
     simp only[Instr.build,Sem.run_bind,run_zeroValue hz1,Result.andThen_ok,run_underlying hu,run_sizeOf hs]
     simp[h1]
   |_=>simp[hu] at hb
def nodeOf (parts:Array (Nat×Operand)) (A:Slots):List (Nat×AV):=parts.toList.map fun p=>(p.1,evalA A p.2)
def apure (P:Program) (o:Oper) (A:Slots) (σ:Store):Option AV:=
 match o.op with
 | .move (.const c)=>some (conv P o.type (.lit c))
 | .move x=>some (evalA A x).share
 | .pick c a b=>match evalA A c with
  | .lit (.bool t)=>some (evalA A (if t then a else b)).share
  |_=>none
 | .load t x=>(aLoad P σ t (evalA A x)).map AV.share
 | .nilCheck x=>aNilCheck (evalA A x)
 | .binOp op t x y _=>aBin P op t (evalA A x) (evalA A y)
 | .unOp op _ x=>match evalA A x with
  | .lit v=>(pureUn op v).map .lit
  |_=>none
 | .convert src dst x=>aConv P src dst (evalA A x)
 | .fieldAddr s x f=>aFieldAddr P s f (evalA A x)
 | .field t x f=>(aField P t f (evalA A x)).map AV.share
 | .indexAddr t x ix=>aIndexAddr P t (evalA A x) (evalA A ix)
 | .index t x ix=>(aIndex P t (evalA A x) (evalA A ix)).map AV.share
 | .slice t x lo hi mx=>aSlice P t (evalA A x) (lo.map (evalA A)) (hi.map (evalA A)) (mx.map (evalA A))
 | .makeInterface t x=>match tIface P t with
  |some false=>some (.iface t (evalA A x).share)
  |_=>none
 | .makeFunc fn first captured=>some (.func fn (first.toList.map fun x=>(evalA A x).share) (captured.toList.map fun x=>(evalA A x).share))
 | .build t parts=>(aBuild P t ((nodeOf parts A).map fun p=>(p.1,conv P (((tField P t p.1).map (·.2)).getD (((tArr P t).map (·.2)).getD 0)) p.2.share)))
 | .call c=>match c.callee,c.args.toList,c.argTypes.toList with
  | .builtin .len,[x],[t]=>aLen P t (evalA A x)
  | .builtin .min,[x,y],_=>aMin (evalA A x) (evalA A y)
  | .builtin .max,[x,y],_=>aMax (evalA A x) (evalA A y)
  |_,_,_=>none
 |_=>none
theorem optVR {D:Nat→Prop} {n:Nat} {G:Ghost} {A:Slots} {σ:Store} {a:Act} {w:World} (h:Rel D n G A σ a w) (o:Option Operand):OptVR G.F (o.map (evalA A)) (o.map a.eval):=by
 cases o with
 |none=>trivial
 |some x=>exact h.eval x
theorem value_ok {P:Program} {s:Sem Value} {w w':World} {v:Value} (h:s.run P w= .ok v w'):(do pure (Next.value (←s)):Sem Next).run P w= .ok (.value v) w':=by
 simp[h]
theorem apure_sound {P:Program} {o:Oper} {D:Nat→Prop} {n:Nat} {G:Ghost} {A:Slots} {σ:Store} {a:Act} {w:World} {v:AV} (h:apure P o A σ=some v) (hR:Rel D n G A σ a w):
  ∃cv,(execOp a.eval o).run P w= .ok (.value cv) w∧VR G.F v cv∧OwnAt G D .acc v cv:=by
 unfold apure at h
 unfold execOp
 have share:∀ {x:Option AV} {s:Sem Value},x.map AV.share=some v→(∀v',x=some v'→∃cv,s.run P w= .ok cv w∧VR G.F v' cv)→
   ∃cv,(do pure (Next.value (←s)):Sem Next).run P w= .ok (.value cv) w∧VR G.F v cv∧OwnAt G D .acc v cv:=by
  intro x s hx hs
  cases x with
  |none=>simp at hx
  |some v'=>
   simp at hx;subst hx
   obtain ⟨cv,h1,h2⟩:=hs v' rfl
   exact ⟨cv,value_ok h1,h2.share,OwnAt.share ..⟩
 have plain:∀ {s:Sem Value},v.plain=true→(∃cv,s.run P w= .ok cv w∧VR G.F v cv)→
   ∃cv,(do pure (Next.value (←s)):Sem Next).run P w= .ok (.value cv) w∧VR G.F v cv∧OwnAt G D .acc v cv:=by
  rintro s hp ⟨cv,h1,h2⟩
  exact ⟨cv,value_ok h1,h2,OwnAt.of_plain hp⟩
 generalize o.op=op at h⊢
 cases op with
 |move x=>
  cases x with
  |const c=>
   simp only[Option.some.injEq] at h;subst h
   exact ⟨c,rfl,conv_VR (.lit c),conv_own (F:=G.F) (.lit c) (OwnAt.of_plain rfl)⟩
  |tmp t=>simp only[Option.some.injEq] at h;subst h;exact ⟨_,rfl,(hR.eval (.tmp t)).share,OwnAt.share ..⟩
  |global g=>simp only[Option.some.injEq] at h;subst h;exact ⟨_,rfl,(hR.eval (.global g)).share,OwnAt.share ..⟩
  |func f=>simp only[Option.some.injEq] at h;subst h;exact ⟨_,rfl,(hR.eval (.func f)).share,OwnAt.share ..⟩
 |pick c x y=>
  dsimp only at h
  split at h
  case h_2=>simp at h
  rename_i t hc
  simp at h;subst h
  have hcv:=hR.eval c
  rw[hc] at hcv
  generalize hcc:a.eval c=cc at hcv
  cases hcv
  refine ⟨if t then a.eval x else a.eval y,by cases t<;>simp[hcc,asBool], ?_,OwnAt.share ..⟩
  cases t
  ·exact (hR.eval y).share
  ·exact (hR.eval x).share
 |load t x=>exact share h fun v' hv'=>aLoad_sound hR.world hv' (hR.eval x)
 |nilCheck x=>
  dsimp only at h⊢
  have hx:=hR.eval x
  unfold aNilCheck at h
  split at h
  ·rename_i p heq
   simp at h;subst h
   rw[heq] at hx
   generalize a.eval x=cx at hx
   cases hx
   exact ⟨_,rfl, .lit _,OwnAt.of_plain rfl⟩
  ·rename_i cs heq
   simp at h;subst h
   rw[heq] at hx
   generalize a.eval x=cx at hx
   cases hx with|fptr _ g off us hl hF hv=> ?_
   exact ⟨_,rfl, .fptr cs g off us hl hF hv,OwnAt.of_plain rfl⟩
  ·rename_i f fs cs heq
   simp at h;subst h
   rw[heq] at hx
   generalize a.eval x=cx at hx
   cases hx with|func _ _ _ ufs ucs h1 h2 h3 h4=> ?_
   exact ⟨_,rfl, .func _ _ _ _ _ h1 h2 h3 h4,OwnAt.of_plain rfl⟩
  ·simp at h
 |binOp op t x y ty=>
  dsimp only at h⊢
  refine plain ?_ (aBin_sound h (hR.eval x) (hR.eval y) x y)
  unfold aBin nilBin at h
  split at h
  ·exact aggBin_plain h
  ·split at h
   ·simp at h;subst h;rfl
   ·split at h
    ·cases hr:eqNil P t _ _<;>rw[hr] at h<;>simp at h;subst h;rfl
    ·cases hr:eqNil P t _ _<;>rw[hr] at h<;>simp at h;subst h;rfl
    ·simp at h
  ·split at h
   ·cases hr:eqNil P t _ _<;>rw[hr] at h<;>simp at h;subst h;rfl
   ·cases hr:eqNil P t _ _<;>rw[hr] at h<;>simp at h;subst h;rfl
   ·simp at h
 |unOp op t x=>
  dsimp only at h⊢
  have hx:=hR.eval x
  split at h
  case h_2=>simp at h
  rename_i v' heq
  cases hp:pureUn op v' with
  |none=>simp[hp] at h
  |some r=>
   simp[hp] at h;subst h
   rw[heq] at hx
   generalize a.eval x=cx at hx
   cases hx
   exact plain rfl ⟨_,pureUn_sound hp w, .lit _⟩
 |convert src dst x=>
  refine plain ?_ (aConv_sound hR.world h (hR.eval x))
  dsimp only at h
  unfold aConv at h
  split at h
  ·split at h
   ·simp at h;subst h;rfl
   ·simp at h
  ·split at h
   ·simp at h;subst h;rfl
   ·simp at h
  ·split at h
   ·split at h
    ·simp at h;obtain ⟨_,_,rfl⟩:=h;rfl
    ·simp at h;obtain ⟨_,_,rfl⟩:=h;rfl
    ·simp at h
   ·simp at h
  ·simp at h
 |fieldAddr s x f=>
  refine plain ?_ (aFieldAddr_sound h (hR.eval x))
  dsimp only at h
  unfold aFieldAddr at h
  (repeat' split at h)<;>first
   |(simp at h;done)
   |(simp at h;subst h;rfl)
 |field t x f=>exact share h fun v' hv'=>aField_sound hv' (hR.eval x)
 |indexAddr t x ix=>
  refine plain ?_ (aIndexAddr_sound h (hR.eval x) (hR.eval ix))
  dsimp only at h
  unfold aIndexAddr at h
  (repeat' split at h)<;>first
   |(simp at h;done)
   |(simp at h;subst h;rfl)
   |(simp at h;obtain ⟨_,_,rfl⟩:=h;rfl)
 |index t x ix=>exact share h fun v' hv'=>aIndex_sound hv' (hR.eval x) (hR.eval ix)
 |slice t x lo hi mx=>
  refine plain ?_ (aSlice_sound h (hR.eval x) (optVR hR lo) (optVR hR hi) (optVR hR mx))
  dsimp only at h
  unfold aSlice at h
  (repeat' split at h)<;>first
   |(simp at h;done)
   |(simp at h;subst h;rfl)
 |makeInterface t x=>
  dsimp only at h⊢
  split at h
  case h_2=>simp at h
  rename_i ht
  simp at h;subst h
  obtain ⟨d,hd,hi⟩:=under_iface ht
  refine plain rfl ⟨.iface t (a.eval x), ?_, .iface t _ _ (hR.eval x).share⟩
  cases d<;>first
   |(simp at hi;done)
   |simp[Instr.makeInterface,run_underlying hd]
 |makeFunc fn first captured=>
  dsimp only at h⊢
  simp at h;subst h
  refine plain rfl ⟨.func fn (first.map a.eval) (captured.map a.eval),rfl, .func _ _ _ _ _ (by simp) (by simp) (fun i c u hc hu=> ?_) fun i c u hc hu=> ?_⟩
  ·simp only[List.getElem?_map,Array.getElem?_toList] at hc
   simp only[Array.getElem?_map] at hu
   cases hx:first[i]? with
   |none=>simp[hx] at hc
   |some x=>simp[hx] at hc hu;subst hc hu;exact (hR.eval x).share
  ·simp only[List.getElem?_map,Array.getElem?_toList] at hc
   simp only[Array.getElem?_map] at hu
   cases hx:captured[i]? with
   |none=>simp[hx] at hc
   |some x=>simp[hx] at hc hu;subst hc hu;exact (hR.eval x).share
 |build t parts=>
  dsimp only at h⊢
  obtain ⟨cv,h1,h2,h3⟩:=build_sound (w:=w) (F:=G.F) (parts':=(parts.map fun p=>(p.1,a.eval p.2)).toList) h (by simp[nodeOf]) (fun i p q hp hq=>by
   simp only[nodeOf,List.map_map,List.getElem?_map,Array.getElem?_toList,Array.toList_map] at hp hq
   cases hx:parts[i]? with
   |none=>simp[hx] at hp
   |some x=>
    simp[hx] at hp hq;subst hp hq
    exact ⟨rfl,fun hs=>(hR.eval x.2).cellsRn_conv hs⟩)
  rw[Array.toArray_toList] at h1
  exact ⟨cv,value_ok h1,h2,h3 ..⟩
 |call c=>
  obtain ⟨callee,args,argTypes⟩:=c
  dsimp only at h⊢
  split at h
  ·rename_i x t hargs hts
   have e1:args= #[x]:=by rw[←Array.toArray_toList (xs:=args),hargs]
   have e2:argTypes= #[t]:=by rw[←Array.toArray_toList (xs:=argTypes),hts]
   subst e1 e2
   obtain ⟨cv,h1,h2⟩:=aLen_sound (w:=w) (ty:=o.type) h (hR.eval x)
   refine ⟨cv, ?_,h2,OwnAt.of_plain ?_⟩
   ·simp[resolve,invoke,builtin,h1]
   ·unfold aLen at h
    (repeat' split at h)<;>first
     |(simp at h;done)
     |(simp at h;subst h;rfl)
  ·rename_i x y hargs
   have e1:args= #[x,y]:=by rw[←Array.toArray_toList (xs:=args),hargs]
   subst e1
   obtain ⟨cv,h1,h2⟩:=aMin_sound (P:=P) (w:=w) (ts:=argTypes) (ty:=o.type) h (hR.eval x) (hR.eval y)
   refine ⟨cv, ?_,h2,OwnAt.of_plain ?_⟩
   ·simp[resolve,invoke,builtin,h1]
   ·unfold aMin at h
    split at h
    ·simp at h;subst h;rfl
    ·simp at h
  ·rename_i x y hargs
   have e1:args= #[x,y]:=by rw[←Array.toArray_toList (xs:=args),hargs]
   subst e1
   obtain ⟨cv,h1,h2⟩:=aMax_sound (P:=P) (w:=w) (ts:=argTypes) (ty:=o.type) h (hR.eval x) (hR.eval y)
   refine ⟨cv, ?_,h2,OwnAt.of_plain ?_⟩
   ·simp[resolve,invoke,builtin,h1]
   ·unfold aMax at h
    split at h
    ·simp at h;subst h;rfl
    ·simp at h
  ·simp at h
 |_=>simp at h
end Go.AL
namespace Go.AL
open Go Go.RowKit Classical
variable [GL]
set_option linter.unusedSectionVars false
theorem Rel.step {D:Nat→Prop} {n:Nat} {G G':Ghost} {A:Slots} {σ σ':Store} {a:Act} {w w':World} (h:Rel D n G A σ a w) (hF:∀g i u,G.F g i=some u→G'.F g i=some u)
  (hS:∀g m z i j,D g→G.S g=some (m,z, .slot i j)→G'.S g=some (m,z, .slot i j)) (hW:WR D G' σ' w') (hsz:w.heap.size≤w'.heap.size):Rel D n G' A σ' a w':=
 ⟨h.defers,h.size,fun i=>(h.val i).mono hF,fun i=>(h.own i).re fun g m z j hd hg=>hS g m z i j hd hg,hW,fun k hk=>h.fresh k (Nat.le_trans hsz hk)⟩
def Does (P:Program) (D:Nat→Prop) (n:Nat) (G:Ghost) (a:Act) (w:World) (o:Oper) (K:AV→Slots→Store→Prop):Prop:=
 ∃v cv A' σ' G' w',K v A' σ'∧((execOp a.eval o).run P w= .ok (.value cv) w'∨((execOp a.eval o).run P w= .ok .skip w'∧cv=undef))∧
  Rel D n G' A' σ' a w'∧VR G'.F v cv∧OwnAt G' D .acc v cv∧Ext D G w G' w'
theorem Ext.alloc {D:Nat→Prop} {w:World} (hD:∀k,w.heap.size≤k→D k) (G:Ghost) (o:Obj):Ext D G w G (w.alloc o):=
 ⟨rfl,rfl,rfl,by simp,fun _ _ _ h=>h,fun k hk=>⟨Below.heap_alloc w o k (by
  rcases Nat.lt_or_ge k w.heap.size with h|h
  ·exact h
  ·exact absurd (hD k h) hk),rfl,rfl⟩⟩
theorem Ext.setS {D:Nat→Prop} {w:World} {G:Ghost} {F:Frz} {g:Nat} (hg:D g) (x:Nat×Nat×Place) (hF:∀k i u,G.F k i=some u→F k i=some u) (ho:∀k,k≠g→F k=G.F k):
  Ext D G w (Ghost.setS ⟨F,G.S⟩ g x) w:=
 ⟨rfl,rfl,rfl,Nat.le_refl _,hF,fun k hk=>by
  have hne:k≠g:=fun e=>hk (e▸hg)
  exact ⟨rfl,by simp[Ghost.setS,hne],ho k hne⟩⟩
theorem CellsR.mono {R R':AV→Value→Prop} {cs:List AV} {us:List Value} (h:CellsR R cs us) (hr:∀c u,R c u→R' c u):CellsR R' cs us:=
 ⟨h.1,h.2.1,fun i c u hc hu=>hr _ _ (h.2.2 i c u hc hu)⟩
theorem newObj_does {P:Program} {D:Nat→Prop} {n:Nat} {G:Ghost} {A:Slots} {σ:Store} {a:Act} {w:World} (h:Rel D n G A σ a w) {o:Oper} {K:AV→Slots→Store→Prop} {cs:List AV} {cur:Array Value} {e:TypeId}
  (hc:CellsR (VRn G.F) cs cur.toList) (f:Nat→Value) (hK:∀p:Nat,σ p=none→K (.lit (f p)) A (σ.upd p cs))
  (hr:(execOp a.eval o).run P w= .ok (.value (f w.heap.size)) (w.alloc (.cells cur e))):Does P D n G a w o K:=by
 have hD:=h.fresh _ (Nat.le_refl w.heap.size)
 have hn:σ w.heap.size=none:=by
  cases hs:σ w.heap.size with
  |none=>rfl
  |some x=>obtain ⟨_,_,_,c,e',h4,_⟩:=h.world.obj _ x hs;have:=(Array.getElem?_eq_some_iff.1 h4).1;omega
 refine ⟨_,_,_,_,G,_,hK _ hn, .inl hr,h.step (fun _ _ _ h=>h) (fun _ _ _ _ _ _ h=>h) (h.world.newObj hD cur e cs (by have:=hc.1;simp at this;omega) fun i c u hci hu=> ?_) (by simp), .lit _,OwnAt.of_plain rfl,Ext.alloc h.fresh G _⟩
 have hu':cur.toList[i]?=some u:=by simpa using hu
 exact ⟨hc.2.1 i u hu',(hc.2.2 i c u hci hu').1,(hc.2.2 i c u hci hu').own ..⟩
theorem newRow_does {P:Program} {D:Nat→Prop} {n:Nat} {G:Ghost} {A:Slots} {σ:Store} {a:Act} {w:World} (h:Rel D n G A σ a w) {o:Oper} {K:AV→Slots→Store→Prop} {cs:List AV} {cur:Array Value} {e:TypeId}
  (hc:CellsR (VRn G.F) cs cur.toList) {l c:Nat} (hlc:l≤c) (hK:∀p:Nat,σ p=none→K (.row p l) A (σ.upd p cs))
  (hr:(execOp a.eval o).run P w= .ok (.value (.slice (some ⟨w.heap.size,0,none⟩) l c)) (w.alloc (.cells cur e))):Does P D n G a w o K:=by
 have hD:=h.fresh _ (Nat.le_refl w.heap.size)
 have hn:σ w.heap.size=none:=by
  cases hs:σ w.heap.size with
  |none=>rfl
  |some x=>obtain ⟨_,_,_,c,e',h4,_⟩:=h.world.obj _ x hs;have:=(Array.getElem?_eq_some_iff.1 h4).1;omega
 refine ⟨_,_,_,_,G,_,hK _ hn, .inl hr,h.step (fun _ _ _ h=>h) (fun _ _ _ _ _ _ h=>h) (h.world.newObj hD cur e cs (by have:=hc.1;simp at this;omega) fun i c u hci hu=> ?_) (by simp), .row _ _ _ hlc,OwnAt.of_plain rfl,Ext.alloc h.fresh G _⟩
 have hu':cur.toList[i]?=some u:=by simpa using hu
 exact ⟨hc.2.1 i u hu',(hc.2.2 i c u hci hu').1,(hc.2.2 i c u hci hu').own ..⟩
def aAlloc (P:Program) (e:TypeId) (A:Slots) (σ:Store) (K:AV→Slots→Store→Prop):Prop:=
 match azero P e with
 |some cs=>∀p:Nat,σ p=none→K (.lit (.pointer (some ⟨p,0,none⟩))) A (σ.upd p cs)
 |none=>False
def aBox (P:Program) (raw:Bool) (e:TypeId) (x:Operand) (A:Slots) (σ:Store) (K:AV→Slots→Store→Prop):Prop:=
 takeA A x fun v A'=>(cond raw v (conv P e v)).solid=true∧∀p:Nat,σ p=none→K (.lit (.pointer (some ⟨p,0,none⟩))) A' (σ.upd p (cond raw v (conv P e v)).cells)
theorem aAlloc_sound {P:Program} {D:Nat→Prop} {n:Nat} {G:Ghost} {A:Slots} {σ:Store} {a:Act} {w:World} (h:Rel D n G A σ a w) {o:Oper} {K:AV→Slots→Store→Prop} {e:TypeId} (ho:o.op= .alloc e)
  (hK:aAlloc P e A σ K):Does P D n G a w o K:=by
 unfold aAlloc at hK
 split at hK
 case h_2=>exact hK.elim
 rename_i cs hz
 obtain ⟨z,hz1,hz2⟩:=azero_sound hz G.F
 refine newObj_does h (cur:=z.cells) (e:=e) hz2 (fun p=> .pointer (some ⟨p,0,none⟩)) hK ?_
 simp[execOp,ho,Instr.alloc,run_zeroValue hz1,newVar,newRow]
theorem WR.objTo {D:Nat→Prop} {G G':Ghost} {σ:Store} {w w':World} (h:WR D G σ w) {o:Nat} {cs cs':List AV} (hcs:σ o=some cs) (hF:G'.F=G.F)
  (hb:∀g n z π,G'.S g=some (n,z,π)→∃π',G.S g=some (n,z,π'))
  (hob:∀g n z p i,D g→p≠o→σ p≠none→G.S g=some (n,z, .obj p i)→G'.S g=some (n,z, .obj p i))
  {cur cur':Array Value} {e:TypeId} (hg:w.heap[o]?=some (.cells cur e (0,0))) (hg':w'.heap[o]?=some (.cells cur' e (0,0))) (hother:∀k,k≠o→w'.heap[k]?=w.heap[k]?)
  (hl:cs'.length≤cur'.size) (hc:∀i c u,cs'[i]?=some c→cur'[i]?=some u→u.oneCell'=true∧VR G.F c u∧Own1 G' D (.obj o i) c u):WR D G' (σ.upd o cs') w':=by
 obtain ⟨p1,p2,p3,_,_,_,_,_⟩:=h.obj o cs hcs
 have hS':∀k,G.S k=none→G'.S k=none:=fun k hk=>by
  cases hs:G'.S k with
  |none=>rfl
  |some x=>obtain ⟨π',hx⟩:=hb k x.1 x.2.1 x.2.2 hs;simp[hk] at hx
 refine ⟨fun g j v hv=> ?_,fun g n z ρ hgS=> ?_,fun o' cs'' hcs'=> ?_,by rw[hF];exact h.laid,othKeep h (fun _ _ _ h=>by rw[hF];exact h) (fun g=>upd_mkey ..) fun k ob hi hk=>by
  have hne:k≠o:=fun e=>by subst e;have:=hi.1;rw[hcs] at this;cases this
  exact ⟨by rw[hother k hne];exact hk,by simp[hne,hi.1],hS' k hi.2.1,by rw[hF];exact hi.2.2⟩,varKeep h fun k ob hi hk=>by
  have hne:k≠o:=fun e=>by subst e;have:=hi.1;rw[hcs] at this;cases this
  exact ⟨by rw[hother k hne];exact hk,by simp[hne,hi.1],by rw[upd_mkey];exact hi.2.1,hS' k hi.2.2⟩⟩
 ·rw[hF] at hv
  obtain ⟨c',e',fz,q1,q2⟩:=h.frz g j v hv
  have:g≠o:=fun e=>by subst e;simp[p3] at hv
  exact ⟨c',e',fz,by rw[hother g this];exact q1,q2⟩
 ·obtain ⟨π',hgS'⟩:=hb g n z ρ hgS
  obtain ⟨q1,⟨c',e',q2,q3⟩,q4⟩:=h.own g n z π' hgS'
  have:g≠o:=fun e=>by subst e;simp[p2] at hgS'
  exact ⟨by simp[this,q1],⟨c',e',q2.same (hother g this),q3⟩,by rw[hF];exact q4⟩
 ·simp only[upd_nat] at hcs'
  split at hcs'
  ·rename_i hoo;subst hoo
   simp only[Option.some.injEq] at hcs';subst hcs'
   exact ⟨p1,hS' _ p2,by rw[hF];exact p3,cur',e,hg',hl,by rw[hF];exact hc⟩
  ·rename_i hoo
   obtain ⟨q1,q2,q3,c',e',q4,q5,q6⟩:=h.obj o' cs'' hcs'
   refine ⟨q1,hS' _ q2,by rw[hF];exact q3,c',e',by rw[hother o' hoo];exact q4,q5,fun i c u hci hu=> ?_⟩
   obtain ⟨r1,r2,r3⟩:=q6 i c u hci hu
   exact ⟨r1,by rw[hF];exact r2,r3.same fun k m y hd hk=>hob k m y o' i hd hoo (by rw[hcs'];simp) hk⟩
def toObj (o off:Nat):Place→Place
 | .acc j=> .obj o (off+j)
 |π=>π
def aStore (P:Program) (t:TypeId) (ad:AV) (x:Operand) (A:Slots) (σ:Store) (K:AV→Slots→Store→Prop):Prop:=
 match ad with
 | .lit (.pointer (some ⟨o,off,none⟩))=>match σ o with
  |some cs=>takeA A x fun v A'=>(conv P t v).solid=true∧tSize P t=some (conv P t v).cells.length∧off+(conv P t v).cells.length≤cs.length∧K .top A' (σ.upd o (setRange cs off (conv P t v).cells))
  |none=>False
 |_=>False
theorem toList_setRow {cur:Array Value} {us:List Value} {off:Nat} (h:off+us.length≤cur.size):cur.toList.take off++us++cur.toList.drop (off+us.length)=setRange cur.toList off us:=by
 apply List.ext_getElem?
 intro i
 rw[setRange_get _ _ _ _ (by simpa using h)]
 by_cases h1:i<off
 ·rw[if_neg (by omega),List.append_assoc,List.getElem?_append_left (by simp;omega),List.getElem?_take_of_lt h1]
 ·by_cases h2:i<off+us.length
  ·rw[if_pos (by omega),List.append_assoc,List.getElem?_append_right (by simp;omega),List.getElem?_append_left (by simp;omega)]
   congr 1;simp;omega
  ·rw[if_neg (by omega),List.getElem?_append_right (by simp;omega),List.getElem?_drop]
   congr 1;simp;omega
theorem storeCells_fz (P:Program) (g o:Nat) (e:TypeId) (fz:Nat×Nat):∀(us:List Value) (i:Nat) (cur:Array Value) (w:World),(fz=(0,0)∨cur.size≤fz.1)→w.heap[g]?=some (.cells cur e fz)→
  o+i+us.length≤cur.size→(∀u∈us,u.oneCell'=true)→(storeCells ⟨g,o,none⟩ us i).run P w= .ok () (w.setRow g (cur.toList.take (o+i)++us++cur.toList.drop (o+i+us.length)).toArray)
 |[],i,cur,w,_,hg,_,_=>by
  have e1:(cur.toList.take (o+i)++[]++cur.toList.drop (o+i+([]:List Value).length)).toArray=cur:=by simp
  rw[e1,setRow_self w g cur e fz hg];rfl
 |u::us,i,cur,w,hfz,hg,hl,h1=>by
  have hi:o+i<cur.size:=by simp at hl;omega
  have hat:(⟨g,o,none⟩:Addr).add i=⟨g,o+i,none⟩:=by unfold Addr.add;split<;>simp_all
  have hno:w.frozen? ⟨g,o+i,none⟩=false:=by
   rcases hfz with rfl|hfz
   ·simp[World.frozen?,hg]
   ·obtain ⟨lo,hi'⟩:=fz
    simp[World.frozen?,hg]
    dsimp only at hfz;omega
  have hone:(store ((⟨g,o,none⟩:Addr).add i) u).run P w= .ok () (w.setRow g (cur.setIfInBounds (o+i) u)):=by
   have hc:w.cell? ⟨g,o+i,none⟩=some cur[o+i]:=by simp[World.cell?,hg,hi]
   rw[hat,run_store P w _ u _ (h1 u (by simp)),hc]
   simp[hno,setCell_eq_setRow w g (o+i) cur e fz u hg]
  have hrest:=storeCells_fz P g o e fz us (i+1) (cur.setIfInBounds (o+i) u) (w.setRow g (cur.setIfInBounds (o+i) u)) (by simpa using hfz) (setRow_heap w g cur _ e _ hg) (by simp at hl⊢;omega) fun x hx=>h1 x (by simp[hx])
  have hstep:=list_seg_step cur.toList (o+i) u us (by simp at hl⊢;omega)
  simp only[storeCells,Sem.run_bind,hone,Result.andThen_ok,hrest,setRow_setRow]
  congr 3
  simpa[Array.toList_setIfInBounds,Nat.add_assoc] using hstep
theorem OwnAt.cells {G:Ghost} {D:Nat→Prop} {r:Nat→Place} {a:AV} {v:Value} (h:OwnAt G D r a v) (hv:VR G.F a v) (hs:a.solid=true):∀(j:Nat) (c:AV) (u:Value),a.cells[j]?=some c→v.cells[j]?=some u→Own1 G D (r j) c u:=by
 intro j c u hc hu
 cases hv with
 |agg cs us=>exact h j c u hc hu
 |top v=>simp[AV.solid,AV.one] at hs
 |tuple=>simp[AV.solid,AV.one] at hs
 |lit v=>
  have:c.plain1=true:=by
   cases j with
   |zero=>simp[AV.cells] at hc;subst hc;rfl
   |succ j=>simp[AV.cells] at hc
  exact Own1.of_plain this
 |_=>
  cases j with
  |zero=>simp[AV.cells,Value.cells] at hc hu;subst hc hu;exact h
  |succ j=>simp[AV.cells] at hc
theorem aBox_sound {P:Program} {D:Nat→Prop} {n:Nat} {G:Ghost} {A:Slots} {σ:Store} {a:Act} {w:World} (h:Rel D n G A σ a w) {o:Oper} {K:AV→Slots→Store→Prop} {raw:Bool} {e:TypeId} {x:Operand} (ho:o.op= .box e x)
  (hK:aBox P raw e x A σ K):Does P D n G a w o K:=by
 obtain ⟨v,A',G1,⟨hs,hk⟩,hR,hv,hown,hext,hF⟩:=h.takes hK
 have hv':VR G1.F (cond raw v (conv P e v)) (a.eval x):=by cases raw<;>first|exact hv|exact conv_VR hv
 have hown':OwnAt G1 D .acc (cond raw v (conv P e v)) (a.eval x):=by cases raw<;>first|exact hown|exact conv_own hv hown
 generalize (cond raw v (conv P e v))=v2 at hs hk hv' hown'
 have hD:=hR.fresh _ (Nat.le_refl w.heap.size)
 have hn:σ w.heap.size=none:=by
  cases hs:σ w.heap.size with
  |none=>rfl
  |some x=>obtain ⟨_,_,_,c,e',h4,_⟩:=hR.world.obj _ x hs;have:=(Array.getElem?_eq_some_iff.1 h4).1;omega
 obtain ⟨c1,c2,c3⟩:=hv'.cellsR hs
 refine ⟨_, .pointer (some ⟨w.heap.size,0,none⟩),A',_,G1.mv D (toObj w.heap.size 0),w.alloc (.cells (a.eval x).cells e),hk _ hn, .inl ?_,hR.step (fun _ _ _ h=>h) (fun g m z i j hd hg=>by rw[Ghost.mv_some hd hg];rfl) ?_ (by simp), .lit _,OwnAt.of_plain rfl,
  (hext.trans (Ext.mv ..)).trans (Ext.alloc hR.fresh _ _)⟩
 ·simp[execOp,ho,Instr.box,newVar,newRow]
 ·refine (hR.world.mv _ (fun _ _=>rfl)).newObj hD _ e _ (by simp at c1;omega) fun i c u hc hu=> ?_
  have hu':(a.eval x).cells.toList[i]?=some u:=by simpa using hu
  refine ⟨c2 i u hu',c3 i c u hc hu',(hown'.cells hv' hs i c u hc hu).re fun g m z hd hg=> ?_⟩
  rw[Ghost.mv_some hd hg];simp[toObj]
theorem aStore_sound {P:Program} {D:Nat→Prop} {n:Nat} {G:Ghost} {A:Slots} {σ:Store} {a:Act} {w:World} (h:Rel D n G A σ a w) {o:Oper} {K:AV→Slots→Store→Prop} {t:TypeId} {y x:Operand} (ho:o.op= .store t y x)
  (hK:aStore P t (evalA A y) x A σ K):Does P D n G a w o K:=by
 unfold aStore at hK
 split at hK
 case h_2=>exact hK.elim
 rename_i p off heq
 split at hK
 case h_2=>exact hK.elim
 rename_i cs hcs
 have hy:=h.eval y
 rw[heq] at hy
 generalize hyv:a.eval y=yv at hy
 cases hy
 obtain ⟨v,A',G1,⟨hsolid,hsz,hle,hk⟩,hR1,hv,hown,hext,hF⟩:=h.takes hK
 have hv':VR G1.F (conv P t v) (a.eval x):=conv_VR hv
 have hown':OwnAt G1 D .acc (conv P t v) (a.eval x):=conv_own hv hown
 generalize conv P t v=v2 at hsolid hsz hle hk hv' hown'
 obtain ⟨p1,p2,p3,cur,e,p4,p5,p6⟩:=hR1.world.obj p cs hcs
 obtain ⟨c1,c2,c3⟩:=hv'.cellsR hsolid
 have hlen:(a.eval x).cells.size=v2.cells.length:=by simpa using c1.symm
 have hfit:off+(a.eval x).cells.toList.length≤cur.size:=by simp;omega
 have hrun:=run_storeCells_at P p off e (a.eval x).cells.toList 0 cur w p4 (by simpa using hfit) (fun u hu=>by
  obtain ⟨i,hi⟩:=List.getElem?_of_mem hu;exact c2 i u hi)
 simp only[Nat.add_zero] at hrun
 rw[toList_setRow hfit] at hrun
 generalize hw':w.setRow p (setRange cur.toList off (a.eval x).cells.toList).toArray=w' at hrun
 have hg':w'.heap[p]?=some (.cells (setRange cur.toList off (a.eval x).cells.toList).toArray e (0,0)):=by subst hw';exact setRow_heap w p cur _ e _ p4
 have hoth:∀k,k≠p→w'.heap[k]?=w.heap[k]?:=fun k hk=>by subst hw';exact setRow_other w p k _ hk
 have hback:∀g m z π,(G1.mv D (toObj p off)).S g=some (m,z,π)→∃π',G1.S g=some (m,z,π'):=fun g m z π hg=>Ghost.mv_back hg
 have hkeep:∀g m z q i,D g→G1.S g=some (m,z, .obj q i)→(G1.mv D (toObj p off)).S g=some (m,z, .obj q i):=fun g m z q i hd hg=>by rw[Ghost.mv_some hd hg];rfl
 refine ⟨.top,undef,A',_,G1.mv D (toObj p off),w',hk, .inr ⟨?_,rfl⟩,hR1.step (fun _ _ _ h=>h) (fun g m z i j hd hg=>by rw[Ghost.mv_some hd hg];rfl) ?_ (by subst hw';simp), .top _,OwnAt.of_plain rfl,
  hext.trans ⟨by subst hw';rfl,by subst hw';rfl,by subst hw';rfl,by subst hw';simp,fun _ _ _ h=>h,fun k hk=> ?_⟩⟩
 ·have hsz':(sizeOf t).run P w= .ok v2.cells.length w:=run_sizeOf hsz w
  simp[execOp,ho,hyv,Instr.storeAt,Instr.sureAddr,storeVar,hsz',hlen,hrun]
 ·refine hR1.world.objTo hcs rfl hback (fun g m z q i hd _ _ hg=>hkeep g m z q i hd hg) p4 hg' hoth (by simp[setRange_length];omega) fun i c u hc hu=> ?_
  have hu':(setRange cur.toList off (a.eval x).cells.toList)[i]?=some u:=by simpa using hu
  rw[setRange_get _ _ _ _ (by simpa using hfit)] at hu'
  rw[setRange_get _ _ _ _ (by omega)] at hc
  simp only[Array.length_toList,hlen] at hu'
  split at hc
  ·rename_i hi
   rw[if_pos hi] at hu'
   refine ⟨c2 _ _ hu',c3 _ _ _ hc hu', ?_⟩
   have:=hown'.cells hv' hsolid (i-off) c u hc (by simpa using hu')
   refine this.re fun g m z hd hg=> ?_
   rw[Ghost.mv_some hd hg];simp[toObj];omega
  ·rename_i hi
   rw[if_neg hi] at hu'
   obtain ⟨q1,q2,q3⟩:=p6 i c u hc (by simpa using hu')
   exact ⟨q1,q2,q3.same fun g m z hd hg=>hkeep g m z p i hd hg⟩
 ·have hne:k≠p:=fun e=>hk (e▸p1)
  exact ⟨hoth k hne,by simp[Ghost.mv,hk],rfl⟩
end Go.AL
namespace Go.AL
open Go Go.RowKit Classical
variable [GL]
set_option linter.unusedSectionVars false
theorem newListS {D:Nat→Prop} {n:Nat} {G:Ghost} {A:Slots} {σ:Store} {a:Act} {w:World} (h:Rel D n G A σ a w) (cur:Array Value) (e:TypeId) (sz:Nat) (vs:List AV) (cap:Nat)
  (hcap:cap*sz=cur.size) (hle:vs.length≤cap) (hmax:cap≤maxLen) (hw:∀v∈vs,v.cells.length=sz) (us:List Value) (hus:CellsR (VR G.F) (flat vs) us) (hcur:∀(i:Nat) (u:Value),us[i]?=some u→cur[i]?=some u):
  ∃G',Rel D n G' A σ a (w.alloc (.cells cur e))∧VR G'.F (.list true sz vs) (.slice (some ⟨w.heap.size,0,none⟩) vs.length cap)∧OwnAt G' D .acc (.list true sz vs) (.slice (some ⟨w.heap.size,0,none⟩) vs.length cap)∧
   Ext D G w G' (w.alloc (.cells cur e))∧(∀g i u,G.F g i=some u→G'.F g i=some u)∧D w.heap.size∧G'.S w.heap.size=some (us.length,cur.size, .acc 0):=by
 have hD:=h.fresh _ (Nat.le_refl w.heap.size)
 have hnoF:∀i,G.F w.heap.size i=none:=fun i=>by
  cases hF:G.F w.heap.size i with
  |none=>rfl
  |some u=>obtain ⟨c,e',fz,h1,_⟩:=h.world.frz _ i u hF;have:=(Array.getElem?_eq_some_iff.1 h1).1;omega
 have hW1:=h.world.newRow cur e (.acc 0)
 have hS1:(G.setS w.heap.size (0,cur.size, .acc 0)).S w.heap.size=some (0,cur.size, .acc 0):=by simp[Ghost.setS]
 have hW2:=hW1.freeze hS1 (by simp) (heap_alloc_new w (.cells cur e)) us (fun i u hu=>by simpa using hcur i u hu) (.acc 0)
 generalize hG':Ghost.setS ⟨Frz.put (G.setS w.heap.size (0,cur.size, .acc 0)).F w.heap.size 0 us,(G.setS w.heap.size (0,cur.size, .acc 0)).S⟩ w.heap.size (0+us.length,cur.size, .acc 0)=G' at hW2
 have hGF:G'.F=Frz.put G.F w.heap.size 0 us:=by subst hG';rfl
 have hmono:∀g i u,G.F g i=some u→G'.F g i=some u:=fun g i u hu=>by
  rw[hGF];exact Frz.put_mono (fun i _=>hnoF i) g i u hu
 have hGS:∀k,k≠w.heap.size→G'.S k=G.S k:=fun k hk=>by subst hG';simp[Ghost.setS,hk]
 have hGS0:G'.S w.heap.size=some (us.length,cur.size, .acc 0):=by subst hG';simp[Ghost.setS]
 have hfl:=flat_length hw
 refine ⟨G',h.step hmono (fun g m z i j hd hg=> ?_) hW2 (by simp), ?_,Or.inr ⟨hD,cur.size, ?_, ?_,hmax⟩,⟨rfl,rfl,rfl,by simp,hmono,fun k hk=> ?_⟩,hmono,hD,hGS0⟩
 ·have:g≠w.heap.size:=fun e=>by
   subst e;obtain ⟨_,⟨c,e',⟨_,h2,_⟩,_⟩,_⟩:=h.world.own _ _ _ _ hg;have:=(Array.getElem?_eq_some_iff.1 h2).1;omega
  rw[hGS g this];exact hg
 ·refine .list true sz vs w.heap.size 0 _ cap us rfl hle hw hus.1.symm (fun i u hu=>⟨?_,hus.2.1 i u hu⟩) fun i c u hc hu=>(hus.2.2 i c u hc hu).mono hmono
  rw[hGF];exact Frz.put_at G.F w.heap.size 0 us i u hu
 ·rw[hGS0,hus.1.symm,hfl];simp
 ·simp only[Nat.zero_add];omega
 ·have hne:k≠w.heap.size:=fun e=>hk (e▸hD)
  refine ⟨(Ext.alloc h.fresh G (.cells cur e)).block k hk|>.1,hGS k hne, ?_⟩
  rw[hGF];exact Frz.put_other hne
theorem newList {D:Nat→Prop} {n:Nat} {G:Ghost} {A:Slots} {σ:Store} {a:Act} {w:World} (h:Rel D n G A σ a w) (cur:Array Value) (e:TypeId) (sz:Nat) (vs:List AV) (cap:Nat)
  (hcap:cap*sz=cur.size) (hle:vs.length≤cap) (hmax:cap≤maxLen) (hw:∀v∈vs,v.cells.length=sz) (us:List Value) (hus:CellsR (VR G.F) (flat vs) us) (hcur:∀(i:Nat) (u:Value),us[i]?=some u→cur[i]?=some u):
  ∃G',Rel D n G' A σ a (w.alloc (.cells cur e))∧VR G'.F (.list true sz vs) (.slice (some ⟨w.heap.size,0,none⟩) vs.length cap)∧OwnAt G' D .acc (.list true sz vs) (.slice (some ⟨w.heap.size,0,none⟩) vs.length cap)∧
   Ext D G w G' (w.alloc (.cells cur e))∧(∀g i u,G.F g i=some u→G'.F g i=some u):=
 let ⟨G',q1,q2,q3,q4,q5,_⟩:=newListS h cur e sz vs cap hcap hle hmax hw us hus hcur
 ⟨G',q1,q2,q3,q4,q5⟩
def setEls (P:Program) (e:TypeId) (s:Nat) (els:List AV):List (Nat×AV)→Option (List AV)
 |[]=>some els
 |(i,v)::rest=>if (conv P e v.share).share.solid=true∧(conv P e v.share).share.cells.length=s∧i<els.length then setEls P e s (els.set i (conv P e v.share).share) rest else none
def zeroEl (P:Program) (e:TypeId):Option AV:=
 match tAgg P e,azero P e with
 |some b,some zs=>(mkAV b zs).map AV.share
 |_,_=>none
def aBuildSlice (P:Program) (t:TypeId) (len:Nat) (parts:List (Nat×AV)):Option AV:=
 match tElem P t with
 |some e=>match tSize P e,zeroEl P e with
  |some s,some z=>if len*s≤16777216∧0<s∧z.cells.length=s∧z.solid=true then (setEls P e s (List.replicate len z) parts).map (.list true s) else none
  |_,_=>none
 |none=>none
theorem zeroCells_eq (z:List Value) (s n:Nat) (hs:z.length=s):(List.range (n*s)).map (fun i=>z[i % s]!)=(List.replicate n z).flatten:=by
 induction n with
 |zero=>simp
 |succ n ih=>
  rw[Nat.succ_mul,List.range_add,List.map_append,ih,List.replicate_succ',List.flatten_append]
  congr 1
  simp only[List.map_map,List.flatten_cons,List.flatten_nil,List.append_nil]
  apply List.ext_getElem
  ·simp[hs]
  ·intro i h1 h2
   simp at h1
   simp only[List.getElem_map,List.getElem_range,Function.comp]
   have:(n*s+i) % s=i:=by rw[Nat.mul_comm,Nat.mul_add_mod];exact Nat.mod_eq_of_lt h1
   rw[this,getElem!_pos z i h2]
theorem flat_set {els:List AV} {s:Nat} (hw:∀v∈els,v.cells.length=s) {i:Nat} (hi:i<els.length) {v:AV} (hv:v.cells.length=s):flat (els.set i v)=setRange (flat els) (i*s) v.cells:=by
 have hw':∀x∈els.set i v,x.cells.length=s:=fun x hx=>by
  rcases List.mem_or_eq_of_mem_set hx with h|h
  ·exact hw x h
  ·rw[h,hv]
 have hl:=flat_length hw
 have hl':=flat_length hw'
 rw[List.length_set] at hl'
 have hmul:(i+1)*s≤els.length*s:=Nat.mul_le_mul_right _ hi
 rw[Nat.succ_mul] at hmul
 apply List.ext_getElem?
 intro k
 rw[setRange_get _ _ _ _ (by omega)]
 by_cases hs:s=0
 ·subst hs
  rw[if_neg (by omega)]
  have e1:flat els=[]:=List.eq_nil_of_length_eq_zero (by simpa using hl)
  have e2:flat (els.set i v)=[]:=List.eq_nil_of_length_eq_zero (by simpa using hl')
  rw[e1,e2]
 have hs':0<s:=Nat.pos_of_ne_zero hs
 by_cases hk:k<els.length*s
 ·have hq:k/s<els.length:=Nat.div_lt_of_lt_mul (by rw[Nat.mul_comm];exact hk)
  have hkm:k/s*s+k % s=k:=Nat.div_add_mod' k s
  have hm:k % s<s:=Nat.mod_lt _ hs'
  have get:∀(xs:List AV),(∀x∈xs,x.cells.length=s)→∀x,xs[k/s]?=some x→(flat xs)[k]?=x.cells[k % s]?:=fun xs hxs x hx=>by
   have hxl:x.cells.length=s:=hxs x (List.mem_of_getElem? hx)
   have hc:x.cells[k % s]?=some (x.cells[k % s]'(by omega)):=List.getElem?_eq_getElem _
   have:=flat_at hxs hx (k % s) _ hc
   rw[hkm] at this
   rw[this,hc]
  by_cases hki:k/s=i
  ·rw[get _ hw' v (by rw[hki];simp[hi])]
   rw[if_pos (by rw[←hki,hv];omega)]
   congr 1;rw[←hki];omega
  ·rw[if_neg]
   ·rw[get _ hw' (els[k/s]) (by rw[List.getElem?_set_ne (Ne.symm hki)];exact List.getElem?_eq_getElem hq),get _ hw _ (List.getElem?_eq_getElem hq)]
   ·rw[hv]
    rintro ⟨a1,a2⟩
    apply hki
    rw[Nat.div_eq_iff hs']
    omega
 ·rw[List.getElem?_eq_none (by omega),if_neg (by omega),List.getElem?_eq_none (by omega)]
theorem setEls_sound {P:Program} {e:TypeId} {F:Frz} {s:Nat} :∀(parts:List (Nat×AV)) (parts':List (Nat×Value)) (els r:List AV) (us:Array Value),
  parts.length=parts'.length→(∀(i:Nat) p q,parts[i]?=some p→parts'[i]?=some q→p.1=q.1∧VR F p.2 q.2)→(∀v∈els,v.cells.length=s)→CellsR (VR F) (flat els) us.toList→setEls P e s els parts=some r→
  ∃us',Instr.fill (fun i=>some (i*s,s)) us parts'=some us'∧CellsR (VR F) (flat r) us'.toList∧r.length=els.length∧(∀v∈r,v.cells.length=s)
 |[],[],els,r,us,_,_,hw,hc,h=>by simp[setEls] at h;subst h;exact ⟨us,rfl,hc,rfl,hw⟩
 |[],_::_,_,_,_,hl,_,_,_,_=>by simp at hl
 |_::_,[],_,_,_,hl,_,_,_,_=>by simp at hl
 |(i,v)::rest,(i',v')::rest',els,r,us,hl,hvr,hw,hc,h=>by
  obtain ⟨e1,e2⟩:=hvr 0 _ _ rfl rfl
  simp only at e1 e2;subst e1
  simp only[setEls] at h
  split at h
  case isFalse=>simp at h
  rename_i hcond
  obtain ⟨c1,c2,c3⟩:=hcond
  have hv2:VR F (conv P e v.share).share v':=(conv_VR e2.share).share
  generalize (conv P e v.share).share=v2 at*
  have hcv:=hv2.cellsR c1
  have hsz:v'.cells.size=s:=by have:=hcv.1;simp at this;omega
  have hfl:=flat_length hw
  have hus:(flat els).length=us.size:=by simpa using hc.1
  have hmul:(i+1)*s≤els.length*s:=Nat.mul_le_mul_right _ c3
  rw[Nat.succ_mul] at hmul
  have hset:=hc.setRange (off:=i*s) hcv (by omega)
  rw[←flat_set hw c3 c2] at hset
  have hw2:∀x∈els.set i v2,x.cells.length=s:=fun x hx=>by
   rcases List.mem_or_eq_of_mem_set hx with h|h
   ·exact hw x h
   ·rw[h,c2]
  obtain ⟨us',h1,h2,h3,h4⟩:=setEls_sound rest rest' (els.set i v2) r (v'.cells.zipIdx.foldl (fun cs p=>cs.setIfInBounds (i*s+p.2) p.1) us) (by simpa using hl)
   (fun j p q hp hq=>hvr (j+1) p q (by simpa using hp) (by simpa using hq)) hw2 (by
    have:=foldl_set v'.cells.toList us (i*s) 0
    rw[←Array.foldl_toList]
    simp only[Nat.add_zero,Array.toList_zipIdx] at this⊢
    rw[this];exact hset) h
  refine ⟨us', ?_,h2,by simpa using h3,h4⟩
  simp only[Instr.fill,hsz]
  rw[if_neg (by simp;omega)]
  exact h1
theorem flat_replicate {z:AV} (n:Nat):flat (List.replicate n z)=(List.replicate n z.cells).flatten:=by
 induction n with
 |zero=>rfl
 |succ n ih=>simp only[flat,List.replicate_succ,List.flatMap_cons,List.flatten_cons] at ih⊢;rw[ih]
theorem CellsR.append {R:AV→Value→Prop} {cs ds:List AV} {us vs:List Value} (h:CellsR R cs us) (k:CellsR R ds vs):CellsR R (cs++ds) (us++vs):=by
 obtain ⟨h1,h2,h3⟩:=h
 obtain ⟨k1,k2,k3⟩:=k
 refine ⟨by simp;omega,fun i u hu=> ?_,fun i c u hc hu=> ?_⟩
 ·rw[List.getElem?_append] at hu
  split at hu
  ·exact h2 _ _ hu
  ·exact k2 _ _ hu
 ·rw[List.getElem?_append] at hu hc
  rw[h1] at hc
  split at hu
  ·rename_i hi;rw[if_pos hi] at hc;exact h3 _ _ _ hc hu
  ·rename_i hi;rw[if_neg hi] at hc;exact k3 _ _ _ hc hu
theorem CellsR.rep {R:AV→Value→Prop} {cs:List AV} {us:List Value} (h:CellsR R cs us) (n:Nat):CellsR R (List.replicate n cs).flatten (List.replicate n us).flatten:=by
 induction n with
 |zero=>exact ⟨rfl,by simp,by simp⟩
 |succ n ih=>simp only[List.replicate_succ,List.flatten_cons];exact h.append ih
theorem zeroEl_sound {P:Program} {e:TypeId} {z:AV} (h:zeroEl P e=some z) (F:Frz):∃zv,tZero P e=some zv∧CellsR (VR F) z.cells zv.cells.toList:=by
 unfold zeroEl at h
 split at h
 case h_2=>simp at h
 rename_i b zs hb hz
 obtain ⟨zv,h1,h2⟩:=azero_sound hz F
 refine ⟨zv,h1, ?_⟩
 cases b with
 |true=>
  simp[mkAV] at h;subst h
  simp only[AV.share,AV.cells]
  refine ⟨by simpa using h2.1,h2.2.1,fun i c u hc hu=> ?_⟩
  rw[List.getElem?_map] at hc
  cases hci:zs[i]? with
  |none=>simp[hci] at hc
  |some c'=>simp[hci] at hc;subst hc;exact (h2.2.2 i c' u hci hu).1.drop1
 |false=>
  match zs,h with
  |[c],h=>
   simp[mkAV] at h;subst h
   have hlen:zv.cells.size=1:=by have:=h2.1;simp at this;omega
   have hs:CellsR (VR F) [c.share] zv.cells.toList:=by
    refine ⟨by simpa using hlen.symm,h2.2.1,fun i c' u hc hu=> ?_⟩
    cases i with
    |zero=>simp at hc;subst hc;exact (h2.2.2 0 c u rfl hu).1.share
    |succ i=>simp at hc
   have hone:c.share.cells=[c.share]:=by
    have hu:zv.cells.toList[0]?=some (zv.cells[0]'(by omega)):=by simp[hlen]
    have:=(h2.2.2 0 c _ rfl hu).1
    have h1c:=h2.2.1 0 _ hu
    cases c with
    |agg cs=>generalize zv.cells[0]=u at this h1c;cases this;simp[Value.oneCell'] at h1c
    |_=>rfl
   rw[hone];exact hs
  |[],h=>simp[mkAV] at h
  |_::_::_,h=>simp[mkAV] at h
theorem maxLen_big {n:Nat} (h:n≤16777216):n≤maxLen:=by unfold maxLen;omega
theorem aBuildSlice_sound {P:Program} {D:Nat→Prop} {n:Nat} {G:Ghost} {A:Slots} {σ:Store} {a:Act} {w:World} (h:Rel D n G A σ a w) {o:Oper} {K:AV→Slots→Store→Prop} {t:TypeId} {len:Nat} {parts:Array (Nat×Operand)}
  (ho:o.op= .buildSlice t len parts) {v:AV} (hv:aBuildSlice P t len (nodeOf parts A)=some v) (hK:K v A σ):Does P D n G a w o K:=by
 unfold aBuildSlice at hv
 split at hv
 case h_2=>simp at hv
 rename_i e he
 split at hv
 case h_2=>simp at hv
 rename_i s z hs hz
 split at hv
 case isFalse=>simp at hv
 rename_i hc
 obtain ⟨c1,c2,c3,c4⟩:=hc
 cases hr:setEls P e s (List.replicate len z) (nodeOf parts A) with
 |none=>simp[hr] at hv
 |some r=>
  simp[hr] at hv;subst hv
  obtain ⟨zv,hz1,hz2⟩:=zeroEl_sound hz G.F
  have hzl:zv.cells.size=s:=by have:=hz2.1;simp at this;omega
  generalize hz0:((Array.range (len*s)).map (zv.cells[· % zv.cells.size]!))=z0
  have hz0':z0.toList=(List.replicate len zv.cells.toList).flatten:=by
   subst hz0
   rw[←zeroCells_eq zv.cells.toList s len (by simpa using hzl),hzl]
   simp only[Array.toList_map,Array.toList_range]
   apply List.map_congr_left
   intro i _
   rw[Array.getElem!_toList]
  obtain ⟨us',h1,h2,h3,h4⟩:=setEls_sound (P:=P) (e:=e) (F:=G.F) (nodeOf parts A) (parts.map fun p=>(p.1,a.eval p.2)).toList (List.replicate len z) r z0 (by simp[nodeOf]) (fun i p q hp hq=>by
   simp only[nodeOf,List.getElem?_map,Array.getElem?_toList,Array.toList_map] at hp hq
   cases hx:parts[i]? with
   |none=>simp[hx] at hp
   |some x=>simp[hx] at hp hq;subst hp hq;exact ⟨rfl,h.eval x.2⟩) (fun v hv=>by rw[(List.mem_replicate.1 hv).2,c3]) (by rw[flat_replicate,hz0'];exact hz2.rep len) hr
  have hfl:=flat_length h4
  simp only[List.length_replicate] at h3
  have husz:us'.size=len*s:=by have:=h2.1;rw[hfl,h3] at this;simpa using this.symm
  obtain ⟨G',q1,q2,q3,q4,_⟩:=newList h us' e s r len husz.symm (by omega) (maxLen_big (Nat.le_trans (Nat.le_mul_of_pos_right _ c2) c1)) h4 us'.toList h2 (fun i u hu=>by simpa using hu)
  refine ⟨_,_,A,σ,G',_,hK, .inl ?_,q1,q2,q3,q4⟩
  have hlim:¬(2^24<len*s):=by omega
  rw[h3]
  rw[Array.toList_map] at h1
  by_cases h0:len*s=0
  ·have hl0:len=0:=by
    rcases Nat.mul_eq_zero.1 h0 with h|h
    ·exact h
    ·omega
   subst hl0
   have hz00:z0= #[]:=by subst hz0;simp
   rw[hz00] at h1
   simp[execOp,ho,Instr.buildSlice,run_underlying (under_elem he),run_sizeOf hs,Array.range_zero',h1,newRow]
  ·simp[execOp,ho,Instr.buildSlice,run_underlying (under_elem he),run_sizeOf hs,hlim,h0,run_zeroValue hz1,hz0,h1,newRow]
end Go.AL
namespace Go.AL
open Go Go.RowKit Classical
variable [GL]
set_option linter.unusedSectionVars false
def srcA (sz:Nat) (v:AV):Option (List AV):=
 match v with
 | .list _ sz' vs=>if sz'=sz then some vs else none
 | .lit (.slice none 0 0)=>some []
 |_=>none
def tZeroSize (P:Program) (e:TypeId):Option Nat:=(tZero P e).map fun z=>z.cells.size
def aAppend (P:Program) (t:TypeId) (s x:Operand) (A:Slots) (σ:Store) (K:AV→Slots→Store→Prop):Prop:=
 match tElem P t with
 |some e=>match tSize P e,tBytes P e with
  |some sz,some by_=>match srcA sz (evalA A x) with
   |some ws=>takeA A s fun v A'=>match conv P t v with
    | .list own sz' vs=>sz'=sz∧0<sz∧tZeroSize P e=some sz∧own=true∧vs.length+ws.length≤maxLen∧(vs.length+ws.length)*by_≤140737488355328∧K (.list true sz (vs++ws)) A' σ
    |_=>False
   |none=>False
  |_,_=>False
 |none=>False
theorem VR.list_src {F:Frz} {v:AV} {sz:Nat} {ws:List AV} {x:Value} (h:VR F v x) (hs:srcA sz v=some ws):
  (ws=[]∧∃xb,x= .slice xb 0 0)∨∃g off cap us,x= .slice (some ⟨g,off,none⟩) ws.length cap∧(∀v∈ws,v.cells.length=sz)∧(∀(i:Nat) (u:Value),us[i]?=some u→F g (off+i)=some u)∧CellsR (VR F) (flat ws) us:=by
 unfold srcA at hs
 split at hs
 ·split at hs
  case isFalse=>simp at hs
  rename_i hsz;subst hsz
  simp at hs;subst hs
  cases h with
  |nil=>exact .inl ⟨rfl,_,rfl⟩
  |void=>exact .inl ⟨rfl,_,rfl⟩
  |list _ _ _ g off n cap us hn hc hw hl hF hv=>exact .inr ⟨g,off,cap,us,by rw[hn],hw,fun i u hu=>(hF i u hu).1,hl.symm,fun i u hu=>(hF i u hu).2,hv⟩
 ·simp at hs;subst hs
  cases h
  exact .inl ⟨rfl,_,rfl⟩
 ·simp at hs
theorem WR.drew {D:Nat→Prop} {G:Ghost} {σ:Store} {w:World} (h:WR D G σ w):WR D G σ w.drew:=⟨h.frz,h.own,h.obj,h.laid,h.oth,h.vars⟩
theorem Ext.drew {D:Nat→Prop} {G:Ghost} {w:World} :Ext D G w G w.drew:=⟨rfl,rfl,rfl,Nat.le_refl _,fun _ _ _ h=>h,fun _ _=>⟨rfl,rfl,rfl⟩⟩
theorem Rel.drew {D:Nat→Prop} {n:Nat} {G:Ghost} {A:Slots} {σ:Store} {a:Act} {w:World} (h:Rel D n G A σ a w):Rel D n G A σ a w.drew:=
 ⟨h.defers,h.size,h.val,h.own,h.world.drew,h.fresh⟩
theorem run_append_none {P:Program} (w:World) {t ty e:TypeId} {i:TypeInfo} (ht:P.underlying t=some (.slice e)) (hi:P.info? e=some i) (base xb:Option Addr) (n c:Nat) (h:n≤c):
  (Builtin.append_ #[t,t] ty #[.slice base n c, .slice xb 0 0]).run P w= .ok (.slice base n c) w:=by
 cases base with
 |none=>cases xb<;>simp[Builtin.append_,run_underlying ht,sizeOf,typeInfo,hi,Builtin.lenOf,h,Builtin.firstCells,loadCells,loadCellsFrom]
 |some a=>cases xb<;>simp[Builtin.append_,run_underlying ht,sizeOf,typeInfo,hi,Builtin.lenOf,h,Builtin.firstCells,storeCells,loadCells,loadCellsFrom]
theorem aAppend_sound {P:Program} {D:Nat→Prop} {n:Nat} {G:Ghost} {A:Slots} {σ:Store} {a:Act} {w:World} (h:Rel D n G A σ a w) {o:Oper} {K:AV→Slots→Store→Prop} {t:TypeId} {s x:Operand}
  (ho:o.op= .call {callee:= .builtin .append,args:= #[s,x],argTypes:= #[t,t]}) (hK:aAppend P t s x A σ K):Does P D n G a w o K:=by
 unfold aAppend at hK
 split at hK
 case h_2=>exact hK.elim
 rename_i e he
 split at hK
 case h_2=>exact hK.elim
 rename_i sz bt hsz hbt
 split at hK
 case h_2=>exact hK.elim
 rename_i ws hws
 obtain ⟨v,A',G1,hK1,hR1,hv,hown,hext,hF⟩:=h.takes hK
 have hsrc:=(h.eval x).list_src hws
 rw[←hF] at hsrc
 have hv':VR G1.F (conv P t v) (a.eval s):=conv_VR hv
 have hown':OwnAt G1 D .acc (conv P t v) (a.eval s):=conv_own hv hown
 generalize conv P t v=v2 at hK1 hv' hown'
 split at hK1
 case h_2=>exact hK1.elim
 rename_i own sz' vs
 obtain ⟨rfl,hpos,hzs0,rfl,hmax,hbytes,hk⟩:=hK1
 obtain ⟨z,hz,hzs⟩:∃z,tZero P e=some z∧z.cells.size=sz':=by
  unfold tZeroSize at hzs0
  cases hq:tZero P e with
  |none=>simp[hq] at hzs0
  |some z=>exact ⟨z,rfl,by simpa[hq] using hzs0⟩
 have ht:=under_elem he
 obtain ⟨i,hi,hisz⟩:∃i,P.info? e=some i∧i.size=sz':=by
  unfold tSize at hsz;cases hq:P.info? e with
  |none=>simp[hq] at hsz
  |some i=>exact ⟨i,rfl,by simpa[hq] using hsz⟩
 have hibt:i.bytes=bt:=by simpa[tBytes,hi] using hbt
 have hiz:i.zero=some z:=by simpa[tZero,hi] using hz
 have run_of:∀ {r:Value} {w':World},(Builtin.append_ #[t,t] o.type #[a.eval s,a.eval x]).run P w= .ok r w'→(execOp a.eval o).run P w= .ok (.value r) w':=by
  intro r w' hr
  simp[execOp,ho,resolve,invoke,builtin,hr]
 generalize a.eval s=sv at*
 generalize a.eval x=xv at*
 subst hisz hibt
 rcases hsrc with ⟨rfl,xb,rfl⟩|⟨g2,off2,cap2,us2,rfl,hw2,hF2,hc2⟩
 ·-- nothing is appended
  rw[List.append_nil] at hk
  cases hv' with
  |nil=>exact ⟨_,_,A',σ,G1,w,hk, .inl (run_of (run_append_none w ht hi none xb 0 0 (Nat.le_refl _))),hR1, .nil ..,by simp[OwnAt,Own1],hext⟩
  |list _ _ _ g off m cap us hn hc hw hl hF1 hv1=>
   exact ⟨_,_,A',σ,G1,w,hk, .inl (run_of (run_append_none w ht hi _ xb m cap hc)),hR1, .list true _ vs g off m cap us hn hc hw hl hF1 hv1,hown',hext⟩
 ·have hflw:=flat_length hw2
  have hus2:us2.length=ws.length*i.size:=by rw[←hflw];exact hc2.1.symm
  have hnews:∀(j:Nat) (u:Value),us2[j]?=some u→w.cell? ((⟨g2,off2,none⟩:Addr).add j)=some u:=fun j u hu=>by
   rw[add_addr]
   obtain ⟨cur,e',fz,q1,q2⟩:=hR1.world.frz _ _ _ (hF2 j u hu)
   rw[cell_of_row w g2 (off2+j) cur e' fz q1];exact q2
  have hone:∀u∈us2,u.oneCell'=true:=fun u hu=>by obtain ⟨j,hj⟩:=List.getElem?_of_mem hu;exact hc2.2.1 j u hj
  have hbig:∀ {k:Nat},k≤maxLen→(k:Int)≤9223372036854775807:=fun hk=>by unfold maxLen at hk;omega
  have grown:∀(olds:List Value) (old:Nat) (run:(Builtin.append_ #[t,t] o.type #[sv, .slice (some ⟨g2,off2,none⟩) ws.length cap2]).run P w=
        .ok (.slice (some ⟨w.heap.size,0,none⟩) (vs.length+ws.length) (grownCap w (vs.length+ws.length) old e)) (w.drew.alloc (.cells (olds.toArray++us2.toArray++Builtin.zeroCells z.cells (grownCap w (vs.length+ws.length) old e-(vs.length+ws.length))) e))),
    (∀v∈vs,v.cells.length=i.size)→CellsR (VR G1.F) (flat vs) olds→Does P D n G a w o K:=by
   intro olds old run hwv hco
   have hge:=grownCap_ge w (vs.length+ws.length) old e
   have hcm:=grownCap_le_maxLen w (vs.length+ws.length) old e hmax
   have hol:olds.length=vs.length*i.size:=by rw[←flat_length hwv];exact hco.1.symm
   have hwall:∀v∈vs++ws,v.cells.length=i.size:=fun v hv=>by
    rcases List.mem_append.1 hv with h|h
    ·exact hwv v h
    ·exact hw2 v h
   have hflat:flat (vs++ws)=flat vs++flat ws:=by simp[flat]
   obtain ⟨G',q1,q2,q3,q4,_⟩:=newList hR1.drew (olds.toArray++us2.toArray++Builtin.zeroCells z.cells (grownCap w (vs.length+ws.length) old e-(vs.length+ws.length))) e i.size (vs++ws) (grownCap w (vs.length+ws.length) old e)
    (by simp only[Array.size_append,List.size_toArray,size_zeroCells,hzs,hol,hus2,←Nat.add_mul];congr 1;omega) (by simpa using hge) hcm hwall (olds++us2) (by rw[hflat];exact hco.append hc2)
    (fun j u hu=>by
     have hlt:=(List.getElem?_eq_some_iff.1 hu).1
     rw[Array.getElem?_append_left (by simpa using hlt)]
     simpa using hu)
   rw[List.length_append] at q2 q3
   exact ⟨_,_,A',σ,G',_,hk, .inl (run_of run),q1,q2,q3,hext.trans (Ext.drew.trans q4)⟩
  cases hv' with
  |nil=>
   simp only[List.length_nil,Nat.zero_add] at grown hmax hbytes
   by_cases h0:ws.length=0
   ·have hws0:ws=[]:=List.eq_nil_of_length_eq_zero h0
    subst hws0
    have hu0:us2=[]:=List.eq_nil_of_length_eq_zero (by simpa using hus2)
    subst hu0
    refine ⟨_, .slice none 0 0,A',σ,G1,w,hk, .inl (run_of ?_),hR1, .nil ..,by simp[OwnAt,Own1],hext⟩
    simp[Builtin.append_,run_underlying ht,sizeOf,typeInfo,hi,Builtin.lenOf,Builtin.firstCells,loadCells,loadCellsFrom]
   ·have hr:=run_append_nil (P:=P) w t o.type e i z ht hi hiz ⟨g2,off2,none⟩ ws.length cap2 us2 hus2 hnews (by omega) (hbig hmax) (by omega)
    exact grown [] 0 (by simpa using hr) (by simp) ⟨rfl,by simp,by simp⟩
  |list _ _ _ g off m cap us hn hc hw hl hF1 hv1=>
   rcases hown' with hcap0|hown'
   ·subst hcap0
    subst hn
    have hvs0:vs=[]:=List.eq_nil_of_length_eq_zero (by omega)
    subst hvs0
    have hus0:us=[]:=List.eq_nil_of_length_eq_zero (by simpa[flat] using hl)
    subst hus0
    by_cases h0:ws.length=0
    ·have hws0:ws=[]:=List.eq_nil_of_length_eq_zero h0
     subst hws0
     have hu0:us2=[]:=List.eq_nil_of_length_eq_zero (by simpa using hus2)
     subst hu0
     refine ⟨_, .slice (some ⟨g,off,none⟩) 0 0,A',σ,G1,w,hk, .inl (run_of ?_),hR1, .list true _ [] g off 0 0 [] rfl (Nat.le_refl _) (by simp) (by simp[flat]) (by simp) (by simp), .inl rfl,hext⟩
     simp[Builtin.append_,run_underlying ht,sizeOf,typeInfo,hi,Builtin.lenOf,Builtin.firstCells,storeCells,loadCells,loadCellsFrom]
    ·have hr:=run_append_grow (P:=P) w t o.type e i z ht hi hiz ⟨g,off,none⟩ 0 0 [] (by simp) (by simp) ⟨g2,off2,none⟩ ws.length cap2 us2 hus2 hnews (by omega) (hbig (by simpa using hmax)) (growslice_fits (by omega) (by simpa using hbytes))
     exact grown [] 0 hr (by simp) ⟨rfl,by simp,by simp⟩
   obtain ⟨hDg,zz,hSg,hcapz,hcapm⟩:=hown'
   have hfl:=flat_length hw
   obtain ⟨hσg,⟨cur,e',⟨fz,hg,hfz⟩,hcz⟩,hnone⟩:=hR1.world.own _ _ _ _ hSg
   dsimp only at hDg hSg hcapz hcapm hσg hg hnone
   have hco:CellsR (VR G1.F) (flat vs) us:=⟨hl.symm,fun j u hu=>(hF1 j u hu).2,hv1⟩
   have hcells:∀(j:Nat) (u:Value),us[j]?=some u→cur[off+j]?=some u:=fun j u hu=>by
    obtain ⟨c',e'',fz',q1,q2⟩:=hR1.world.frz _ _ _ (hF1 j u hu).1
    rw[hg] at q1;simp only[Option.some.injEq,Obj.cells.injEq] at q1;obtain ⟨rfl,_,_⟩:=q1;exact q2
   subst hn
   by_cases hroom:vs.length+ws.length≤cap
   ·-- in place
    have hmul:(vs.length+ws.length)*i.size≤cap*i.size:=Nat.mul_le_mul_right _ hroom
    rw[Nat.add_mul] at hmul
    have hfit:off+vs.length*i.size+us2.length≤cur.size:=by omega
    have hst:=storeCells_fz P g (off+vs.length*i.size) e' fz us2 0 cur w hfz hg (by simpa using hfit) hone
    simp only[Nat.add_zero] at hst
    rw[toList_setRow hfit] at hst
    have hf:=run_firstCells_some (P:=P) w i.size ws.length ⟨g2,off2,none⟩ ws.length cap2 us2 hus2 hnews
    generalize hw':w.setRow g (setRange cur.toList (off+vs.length*i.size) us2).toArray=w' at hst
    have hrun:(Builtin.append_ #[t,t] o.type #[.slice (some ⟨g,off,none⟩) vs.length cap, .slice (some ⟨g2,off2,none⟩) ws.length cap2]).run P w= .ok (.slice (some ⟨g,off,none⟩) (vs.length+ws.length) cap) w':=by
     simp[Builtin.append_,run_underlying ht,sizeOf,typeInfo,hi,Builtin.lenOf,hroom,hf,add_addr,hst]
    have hg':w'.heap[g]?=some (.cells (setRange cur.toList (off+vs.length*i.size) us2).toArray e' fz):=by subst hw';exact setRow_heap w g cur _ e' _ hg
    have hoth:∀k,k≠g→w'.heap[k]?=w.heap[k]?:=fun k hk=>by subst hw';exact setRow_other w g k _ hk
    have hW1:=hR1.world.write hSg hfz hg hg' (by simp[setRange_length]) (fun j hj=>by
     have:(setRange cur.toList (off+vs.length*i.size) us2)[j]?=cur.toList[j]?:=by
      rw[setRange_get _ _ _ _ (by simpa using hfit),if_neg (by omega)]
     simpa using this) hoth
    have hW2:=hW1.freeze hSg (by simp) hg' us2 (fun j u hu=>by
     have hj:=(List.getElem?_eq_some_iff.1 hu).1
     have:(setRange cur.toList (off+vs.length*i.size) us2)[off+vs.length*i.size+j]?=some u:=by
      rw[setRange_get _ _ _ _ (by simpa using hfit),if_pos (by omega)]
      simpa using hu
     simpa using this) (.acc 0)
    generalize hG':Ghost.setS ⟨Frz.put G1.F g (off+vs.length*i.size) us2,G1.S⟩ g (off+vs.length*i.size+us2.length,zz, .acc 0)=G' at hW2
    have hGF:G'.F=Frz.put G1.F g (off+vs.length*i.size) us2:=by subst hG';rfl
    have hmono:∀k j u,G1.F k j=some u→G'.F k j=some u:=fun k j u hu=>by rw[hGF];exact Frz.put_mono hnone k j u hu
    have hGS:∀k,k≠g→G'.S k=G1.S k:=fun k hk=>by subst hG';simp[Ghost.setS,hk]
    have hGS0:G'.S g=some (off+vs.length*i.size+us2.length,zz, .acc 0):=by subst hG';simp[Ghost.setS]
    have hwall:∀v∈vs++ws,v.cells.length=i.size:=fun v hv=>by
     rcases List.mem_append.1 hv with h|h
     ·exact hw v h
     ·exact hw2 v h
    have hflat:flat (vs++ws)=flat vs++flat ws:=by simp[flat]
    have hcc:CellsR (VR G'.F) (flat (vs++ws)) (us++us2):=by rw[hflat];exact (hco.append hc2).mono fun c u h=>h.mono hmono
    have husl:us.length=vs.length*i.size:=by omega
    refine ⟨_,_,A',σ,G',w',hk, .inl (run_of hrun),hR1.step hmono (fun k m z' q j hd hk=> ?_) hW2 (by subst hw';simp), ?_,Or.inr ⟨hDg,zz, ?_,hcapz,hcapm⟩,hext.trans ⟨by subst hw';rfl,by subst hw';rfl,by subst hw';rfl,by subst hw';simp,hmono,fun k hk=> ?_⟩⟩
    ·have:k≠g:=fun e=>by subst e;rw[hSg] at hk;simp at hk
     rw[hGS k this];exact hk
    ·refine .list true i.size (vs++ws) g off _ cap (us++us2) (by simp) hroom hwall hcc.1.symm (fun j u hu=>⟨?_,hcc.2.1 j u hu⟩) hcc.2.2
     rw[List.getElem?_append] at hu
     split at hu
     ·exact hmono _ _ _ (hF1 j u hu).1
     ·rename_i hj
      rw[hGF]
      have:=Frz.put_at G1.F g (off+vs.length*i.size) us2 _ u hu
      rwa[show off+vs.length*i.size+(j-us.length)=off+j from by omega] at this
    ·dsimp only;rw[hGS0,Nat.add_mul,hus2];simp[Nat.add_assoc]
    ·have hne:k≠g:=fun e=>hk (e▸hDg)
     exact ⟨hoth k hne,hGS k hne,by rw[hGF];exact Frz.put_other hne⟩
   ·-- a new row:what was is copied
    have holds:∀(j:Nat) (u:Value),us[j]?=some u→w.cell? ((⟨g,off,none⟩:Addr).add j)=some u:=fun j u hu=>by
     rw[add_addr,cell_of_row w g (off+j) cur e' fz hg];exact hcells j u hu
    have hr:=run_append_grow (P:=P) w t o.type e i z ht hi hiz ⟨g,off,none⟩ vs.length cap us (by omega) holds ⟨g2,off2,none⟩ ws.length cap2 us2 hus2 hnews (by omega) (hbig hmax) (growslice_fits (by omega) hbytes)
    exact grown us cap hr hw hco
end Go.AL
namespace Go.AL
open Go Go.RowKit Classical
variable [GL]
set_option linter.unusedSectionVars false
def Store.del (σ:Store) (o:Nat):Store:=fun p=>if p=(o:Int) then none else σ p
@[simp] theorem del_mkey (σ:Store) (o g:Nat):(σ.del o) (mkey g)=σ (mkey g):=by simp[Store.del]
@[simp] theorem del_nat (σ:Store) (o p:Nat):(σ.del o) (p:Int)=if p=o then none else σ p:=by simp[Store.del,Int.natCast_inj]
def Store.delO (σ:Store):Option Nat→Store
 |some o=>σ.del o
 |none=>σ
@[simp] theorem delO_mkey (σ:Store) (x:Option Nat) (g:Nat):σ.delO x (mkey g)=σ (mkey g):=by cases x<;>simp[Store.delO]
theorem delO_or (σ:Store) (x:Option Nat) (o:Int):σ.delO x o=none∨σ.delO x o=σ o:=by
 cases x with
 |none=>exact .inr rfl
 |some p=>simp only[Store.delO,Store.del];split
          ·exact .inl rfl
          ·exact .inr rfl
theorem delO_none {σ:Store} {x:Option Nat} {o:Int} (h:σ o=none):σ.delO x o=none:=by rcases delO_or σ x o with h'|h'<;>simp[h',h]
theorem delO_ne {σ:Store} {x:Option Nat} {o:Nat} (h:σ.delO x o≠none):x≠some o:=by
 rintro rfl;simp[Store.delO,Store.del] at h
def listCells:AV→Option (List AV)
 | .list _ _ vs=>some ((flat vs).map AV.drop1)
 |_=>none
def aBuildObj (P:Program) (t:TypeId) (len:Nat) (parts:Array (Nat×Operand)) (A:Slots) (σ:Store) (K:AV→Slots→Store→Prop):Prop:=
 match tElem P t,parts.toList with
 |some e,[]=>len=0∧(tSize P e).isSome=true∧∀p:Nat,σ p=none→K (.lit (.slice (some ⟨p,0,none⟩) 0 0)) A (σ.upd p [])
 |some e,[(0,x)]=>match tSize P e with
  |some s=>len=1∧0<s∧s≤16777216∧tZeroSize P e=some s∧takeA A x fun v A'=>(conv P e v).solid=true∧(conv P e v).cells.length=s∧∀p:Nat,σ p=none→K (.lit (.slice (some ⟨p,0,none⟩) 1 1)) A' (σ.upd p (conv P e v).cells)
  |none=>False
 |some _,_=>match aBuildSlice P t len (nodeOf parts A) with
  |some v=>match listCells v with
   |some cs=>∀p:Nat,σ p=none→K (.lit (.slice (some ⟨p,0,none⟩) len len)) A (σ.upd p cs)
   |none=>False
  |none=>False
 |none,_=>False
theorem aBuildMany_sound {P:Program} {D:Nat→Prop} {n:Nat} {G:Ghost} {A:Slots} {σ:Store} {a:Act} {w:World} (h:Rel D n G A σ a w) {o:Oper} {K:AV→Slots→Store→Prop} {t:TypeId} {len:Nat} {parts:Array (Nat×Operand)}
  (ho:o.op= .buildSlice t len parts) {v:AV} (hv:aBuildSlice P t len (nodeOf parts A)=some v) {cs:List AV} (hcs:listCells v=some cs) (hK:∀p:Nat,σ p=none→K (.lit (.slice (some ⟨p,0,none⟩) len len)) A (σ.upd p cs)):Does P D n G a w o K:=by
 unfold aBuildSlice at hv
 split at hv
 case h_2=>simp at hv
 rename_i e he
 split at hv
 case h_2=>simp at hv
 rename_i s z hs hz
 split at hv
 case isFalse=>simp at hv
 rename_i hc
 obtain ⟨c1,c2,c3,c4⟩:=hc
 cases hr:setEls P e s (List.replicate len z) (nodeOf parts A) with
 |none=>simp[hr] at hv
 |some r=>
  simp[hr] at hv;subst hv
  simp[listCells] at hcs;subst hcs
  obtain ⟨zv,hz1,hz2⟩:=zeroEl_sound hz G.F
  have hzl:zv.cells.size=s:=by have:=hz2.1;simp at this;omega
  generalize hz0:((Array.range (len*s)).map (zv.cells[· % zv.cells.size]!))=z0
  have hz0':z0.toList=(List.replicate len zv.cells.toList).flatten:=by
   subst hz0
   rw[←zeroCells_eq zv.cells.toList s len (by simpa using hzl),hzl]
   simp only[Array.toList_map,Array.toList_range]
   apply List.map_congr_left
   intro i _
   rw[Array.getElem!_toList]
  obtain ⟨us',h1,h2,h3,h4⟩:=setEls_sound (P:=P) (e:=e) (F:=G.F) (nodeOf parts A) (parts.map fun p=>(p.1,a.eval p.2)).toList (List.replicate len z) r z0 (by simp[nodeOf]) (fun i p q hp hq=>by
   simp only[nodeOf,List.getElem?_map,Array.getElem?_toList,Array.toList_map] at hp hq
   cases hx:parts[i]? with
   |none=>simp[hx] at hp
   |some x=>simp[hx] at hp hq;subst hp hq;exact ⟨rfl,h.eval x.2⟩) (fun v hv=>by rw[(List.mem_replicate.1 hv).2,c3]) (by rw[flat_replicate,hz0'];exact hz2.rep len) hr
  have hfl:=flat_length h4
  simp only[List.length_replicate] at h3
  have husz:us'.size=len*s:=by have:=h2.1;rw[hfl,h3] at this;simpa using this.symm
  have hdrop:CellsR (VRn G.F) ((flat r).map AV.drop1) us'.toList:=by
   refine ⟨by simpa using h2.1,h2.2.1,fun i c u hc hu=> ?_⟩
   rw[List.getElem?_map] at hc
   cases hci:(flat r)[i]? with
   |none=>simp[hci] at hc
   |some c'=>simp[hci] at hc;subst hc;exact ⟨(h2.2.2 i c' u hci hu).drop1, .inl (by cases c'<;>simp[AV.drop1,AV.plain1])⟩
  refine newObj_does h (cur:=us') (e:=e) hdrop (fun p=> .slice (some ⟨p,0,none⟩) len len) hK ?_
  have hlim:¬(2^24<len*s):=by omega
  rw[Array.toList_map] at h1
  by_cases h0:len*s=0
  ·have hl0:len=0:=by
    rcases Nat.mul_eq_zero.1 h0 with h|h
    ·exact h
    ·omega
   subst hl0
   have hz00:z0= #[]:=by subst hz0;simp
   rw[hz00] at h1
   simp[execOp,ho,Instr.buildSlice,run_underlying (under_elem he),run_sizeOf hs,Array.range_zero',h1,newRow]
  ·simp[execOp,ho,Instr.buildSlice,run_underlying (under_elem he),run_sizeOf hs,hlim,h0,run_zeroValue hz1,hz0,h1,newRow]
theorem setRange_full {α:Type} (xs ys:List α) (h:xs.length=ys.length):setRange xs 0 ys=ys:=by
 apply List.ext_getElem?
 intro i
 rw[setRange_get _ _ _ _ (by omega)]
 split
 ·simp
 ·rw[List.getElem?_eq_none (by omega),List.getElem?_eq_none (by omega)]
theorem aBuildObj_sound {P:Program} {D:Nat→Prop} {n:Nat} {G:Ghost} {A:Slots} {σ:Store} {a:Act} {w:World} (h:Rel D n G A σ a w) {o:Oper} {K:AV→Slots→Store→Prop} {t:TypeId} {len:Nat} {parts:Array (Nat×Operand)}
  (ho:o.op= .buildSlice t len parts) (hK:aBuildObj P t len parts A σ K):Does P D n G a w o K:=by
 unfold aBuildObj at hK
 split at hK
 case h_1=>
  rename_i e he hparts
  obtain ⟨rfl,hs,hK⟩:=hK
  obtain ⟨s,hs⟩:=Option.isSome_iff_exists.1 hs
  have e1:parts= #[]:=by rw[←Array.toArray_toList (xs:=parts),hparts]
  subst e1
  refine newObj_does h (cur:= #[]) (e:=e) ⟨rfl,by simp,by simp⟩ (fun p=> .slice (some ⟨p,0,none⟩) 0 0) hK ?_
  simp[execOp,ho,Instr.buildSlice,run_underlying (under_elem he),run_sizeOf hs,Array.range_zero',newRow,Instr.fill]
 case h_3=>
  split at hK
  case h_2=>exact hK.elim
  rename_i v hv
  split at hK
  case h_2=>exact hK.elim
  rename_i cs hcs
  exact aBuildMany_sound h ho hv hcs hK
 case h_4=>exact hK.elim
 rename_i e x he hparts
 split at hK
 case h_2=>exact hK.elim
 rename_i s hs
 obtain ⟨rfl,hpos,hbig,hz,hK⟩:=hK
 have e1:parts= #[(0,x)]:=by rw[←Array.toArray_toList (xs:=parts),hparts]
 subst e1
 unfold tZeroSize at hz
 cases hz0:tZero P e with
 |none=>simp[hz0] at hz
 |some z=>
  simp[hz0] at hz
  obtain ⟨v,A',G1,⟨hsol,hlen,hk⟩,hR,hv,hown,hext,hF⟩:=h.takes hK
  have hv':VR G1.F (conv P e v) (a.eval x):=conv_VR hv
  have hown':OwnAt G1 D .acc (conv P e v) (a.eval x):=conv_own hv hown
  generalize conv P e v=v2 at hsol hlen hk hv' hown'
  have hD:=hR.fresh _ (Nat.le_refl w.heap.size)
  have hn:σ w.heap.size=none:=by
   cases hs:σ w.heap.size with
   |none=>rfl
   |some x=>obtain ⟨_,_,_,c,e',h4,_⟩:=hR.world.obj _ x hs;have:=(Array.getElem?_eq_some_iff.1 h4).1;omega
  obtain ⟨c1,c2,c3⟩:=hv'.cellsR hsol
  have hsz:(a.eval x).cells.size=s:=by simp at c1;omega
  refine ⟨_, .slice (some ⟨w.heap.size,0,none⟩) 1 1,A',_,G1.mv D (toObj w.heap.size 0),w.alloc (.cells (a.eval x).cells e),hk _ hn, .inl ?_,hR.step (fun _ _ _ h=>h) (fun g m z i j hd hg=>by rw[Ghost.mv_some hd hg];rfl) ?_ (by simp), .lit _,OwnAt.of_plain rfl,
   (hext.trans (Ext.mv ..)).trans (Ext.alloc hR.fresh _ _)⟩
  ·have hlim:¬(2^24<1*s):=by omega
   have h0:¬(1*s=0):=by omega
   have hfill:∀z0:Array Value,z0.size=s→Instr.fill (fun i=>some (i*s,s)) z0 [(0,a.eval x)]=some (a.eval x).cells:=by
    intro z0 hz0
    simp only[Instr.fill,hsz]
    rw[if_neg (by simp;omega)]
    have:=foldl_set (a.eval x).cells.toList z0 0 0
    rw[←Array.foldl_toList]
    simp only[Nat.zero_mul,Nat.zero_add,Array.toList_zipIdx] at this⊢
    congr 1
    apply Array.ext'
    rw[this,setRange_full _ _ (by simp[hz0,hsz])]
   simp[execOp,ho,Instr.buildSlice,run_underlying (under_elem he),run_sizeOf hs,show ¬(16777216<s) by omega,show s≠0 by omega,run_zeroValue hz0,newRow,hfill]
  ·refine (hR.world.mv _ (fun _ _=>rfl)).newObj hD _ e _ (by simp at c1;omega) fun i c u hc hu=> ?_
   have hu':(a.eval x).cells.toList[i]?=some u:=by simpa using hu
   refine ⟨c2 i u hu',c3 i c u hc hu',(hown'.cells hv' hsol i c u hc hu).re fun g m z hd hg=> ?_⟩
   rw[Ghost.mv_some hd hg];simp[toObj]
def rowOf (σ:Store) (sz:Nat):AV→Option (Option Nat×List AV×Nat)
 | .lit (.slice none 0 0)=>some (none,[],0)
 | .lit (.slice (some ⟨o,0,none⟩) n cap)=>match σ o with
  |some cs=>if cs.length=cap*sz∧n≤cap∧cap≤maxLen then some (some o,cs.take (n*sz),n) else none
  |none=>none
 |_=>none
def srcOf (σ:Store) (sz:Nat):AV→Option (Option Nat×List AV×Nat)
 | .list _ sz' ws=>if sz'=sz then some (none,(flat ws).map AV.drop1,ws.length) else none
 | .lit (.slice none 0 0)=>some (none,[],0)
 | .lit (.slice (some ⟨q,0,none⟩) k _)=>match σ q with
  |some ds=>if k*sz≤ds.length then some (some q,ds.take (k*sz),k) else none
  |none=>none
 |_=>none
def tZeroOk (P:Program) (e:TypeId):Bool:=(tZero P e).any fun z=>z.cells.toList.all Value.oneCell'
def aAppendObj (P:Program) (t:TypeId) (s x:Operand) (A:Slots) (σ:Store) (K:AV→Slots→Store→Prop):Prop:=
 match tElem P t with
 |some e=>match tSize P e,tBytes P e with
  |some sz,some bt=>match rowOf σ sz (evalA A s),srcOf σ sz (evalA A x) with
   |some (o,old,m),some (q,new,k)=>0<sz∧tZeroSize P e=some sz∧tZeroOk P e=true∧(o.isSome=true→o≠q)∧m+k≤maxLen∧(m+k)*bt≤140737488355328∧
    (k=0→K (evalA A s) A σ)∧(0<k→∀(p:Nat) cap,(o=some p∨σ p=none)→m+k≤cap→cap≤maxLen→K (.lit (.slice (some ⟨p,0,none⟩) (m+k) cap)) A (((σ.delO o).delO q).upd p (old++new++List.replicate ((cap-(m+k))*sz) .top)))
   |_,_=>False
  |_,_=>False
 |none=>False
def toRow (o q:Option Nat) (p m:Nat):Place→Place
 | .obj b j=>if o=some b then .obj p j else if q=some b then .obj p (m+j) else .obj b j
 |π=>π
theorem WR.objRow {D:Nat→Prop} {G:Ghost} {σ:Store} {w w':World} (h:WR D G σ w) {o q:Option Nat} {p ml:Nat} (hp:∀ob,w.heap[p]?=some ob→σ p≠none) (hfree:G.S p=none∧∀i,G.F p i=none) (hD:D p) {cells:List AV} {cur':Array Value} {e:TypeId}
  (hg':w'.heap[p]?=some (.cells cur' e (0,0))) (hoth:∀k b,w.heap[k]?=some b→k≠p→w'.heap[k]?=some b) (hl:cells.length≤cur'.size)
  (hc:∀i c u,cells[i]?=some c→cur'[i]?=some u→u.oneCell'=true∧VR G.F c u∧Own1 (G.mv D (toRow o q p ml)) D (.obj p i) c u):
  WR D (G.mv D (toRow o q p ml)) (((σ.delO o).delO q).upd p cells) w':=by
 have hσ:∀k,σ k=none→(((σ.delO o).delO q)) k=none:=fun k hk=>delO_none (delO_none hk)
 refine ⟨fun g i u hu=> ?_,fun g n z ρ hg=> ?_,fun b cs hcs=> ?_,h.laid,othKeep (G':=G.mv D (toRow o q p ml)) h (fun _ _ _ h=>h) (fun g=>by simp) fun k ob hi hk=>by
  have hne:k≠p:=fun e=>by subst e;exact hp ob hk hi.1
  exact ⟨hoth k ob hk hne,by simp[hne,hσ k hi.1],Ghost.mv_none hi.2.1,hi.2.2⟩,varKeep (G':=G.mv D (toRow o q p ml)) h fun k ob hi hk=>by
  have hne:k≠p:=fun e=>by subst e;exact hp ob hk hi.1
  exact ⟨hoth k ob hk hne,by simp[hne,hσ k hi.1],by simp[hi.2.1],Ghost.mv_none hi.2.2⟩⟩
 ·obtain ⟨c,e',fz,h1,h2⟩:=h.frz g i u hu
  have:g≠p:=fun e=>by subst e;simp[Ghost.mv,hfree.2] at hu
  exact ⟨c,e',fz,hoth _ _ h1 this,h2⟩
 ·obtain ⟨π',hg0⟩:=Ghost.mv_back hg
  obtain ⟨h1,⟨c,e',h2,h3⟩,h4⟩:=h.own g n z π' hg0
  have hne:g≠p:=fun e=>by subst e;rw[hfree.1] at hg0;cases hg0
  exact ⟨by simp[hne,hσ g h1],⟨c,e',h2.keep fun _ q=>hoth _ _ q hne,h3⟩,h4⟩
 ·simp only[upd_nat] at hcs
  split at hcs
  ·rename_i hb;subst hb
   simp only[Option.some.injEq] at hcs;subst hcs
   exact ⟨hD,Ghost.mv_none hfree.1,hfree.2,cur',e,hg',hl,hc⟩
  ·rename_i hb
   have hq:(σ.delO o).delO q b≠none:=by rw[hcs];simp
   have hq1:=delO_ne hq
   have hb1:σ.delO o b=some cs:=by rcases delO_or (σ.delO o) q b with h'|h'<;>rw[h'] at hcs<;>first|exact hcs|cases hcs
   have hq2:=delO_ne (show σ.delO o b≠none by rw[hb1];simp)
   have hb2:σ b=some cs:=by rcases delO_or σ o b with h'|h'<;>rw[h'] at hb1<;>first|exact hb1|cases hb1
   obtain ⟨r1,r2,r3,c',e',r4,r5,r6⟩:=h.obj b cs hb2
   refine ⟨r1,Ghost.mv_none r2,r3,c',e',hoth _ _ r4 hb,r5,fun i c u hci hu=> ?_⟩
   obtain ⟨s1,s2,s3⟩:=r6 i c u hci hu
   refine ⟨s1,s2,s3.same fun g n z hd hg=> ?_⟩
   rw[Ghost.mv_some hd hg]
   simp[toRow,hq1,hq2]
theorem aAppendObj_sound {P:Program} {D:Nat→Prop} {n:Nat} {G:Ghost} {A:Slots} {σ:Store} {a:Act} {w:World} (h:Rel D n G A σ a w) {o:Oper} {K:AV→Slots→Store→Prop} {t:TypeId} {s x:Operand}
  (ho:o.op= .call {callee:= .builtin .append,args:= #[s,x],argTypes:= #[t,t]}) (hK:aAppendObj P t s x A σ K):Does P D n G a w o K:=by
 unfold aAppendObj at hK
 split at hK
 case h_2=>exact hK.elim
 rename_i e he
 split at hK
 case h_2=>exact hK.elim
 rename_i sz bt hsz hbt
 split at hK
 case h_2=>exact hK.elim
 rename_i ob old m q new k hrow hsrc
 obtain ⟨hpos,hzs0,hzone,hoq,hmax,hbytes,hk0,hk⟩:=hK
 obtain ⟨z,hz,hzs⟩:∃z,tZero P e=some z∧z.cells.size=sz:=by
  unfold tZeroSize at hzs0
  cases hq:tZero P e with
  |none=>simp[hq] at hzs0
  |some z=>exact ⟨z,rfl,by simpa[hq] using hzs0⟩
 unfold tZeroOk at hzone
 rw[hz] at hzone
 simp only[Option.any_some] at hzone
 have ht:=under_elem he
 obtain ⟨i,hi,hisz⟩:∃i,P.info? e=some i∧i.size=sz:=by
  unfold tSize at hsz;cases hq:P.info? e with
  |none=>simp[hq] at hsz
  |some i=>exact ⟨i,rfl,by simpa[hq] using hsz⟩
 have hibt:i.bytes=bt:=by simpa[tBytes,hi] using hbt
 have hiz:i.zero=some z:=by simpa[tZero,hi] using hz
 have hsv:=h.eval s
 have hxv:=h.eval x
 have run_of:∀ {r:Value} {w':World},(Builtin.append_ #[t,t] o.type #[a.eval s,a.eval x]).run P w= .ok r w'→(execOp a.eval o).run P w= .ok (.value r) w':=by
  intro r w' hr
  simp[execOp,ho,resolve,invoke,builtin,hr]
 generalize a.eval s=sv at*
 generalize a.eval x=xv at*
 generalize evalA A s=sa at*
 subst hisz hibt
 have hbig:∀ {k:Nat},k≤maxLen→(k:Int)≤9223372036854775807:=fun hk=>by unfold maxLen at hk;omega
 obtain ⟨us2,hus2,hc2,hxs⟩:∃us2:List Value,us2.length=k*i.size∧CellsR (fun c u=>VR G.F c u) new us2∧(∀j c u,new[j]?=some c→us2[j]?=some u→(c.plain1=true∨∃b,q=some b∧Own1 G D (.obj b j) c u))∧
   (((∃xb,xv= .slice xb 0 0)∧k=0)∨∃g2 off2 cap2,xv= .slice (some ⟨g2,off2,none⟩) k cap2∧∀(j:Nat) (u:Value),us2[j]?=some u→w.cell? ((⟨g2,off2,none⟩:Addr).add j)=some u):=by
  unfold srcOf at hsrc
  split at hsrc
  ·rename_i own sz' ws hxa
   split at hsrc
   case isFalse=>simp at hsrc
   rename_i hsz';subst hsz'
   simp only[Option.some.injEq,Prod.mk.injEq] at hsrc
   obtain ⟨rfl,rfl,rfl⟩:=hsrc
   rw[hxa] at hxv
   have dropR:∀ {us:List Value},CellsR (VR G.F) (flat ws) us→CellsR (VR G.F) ((flat ws).map AV.drop1) us:=fun hc=>⟨by simpa using hc.1,hc.2.1,fun j c u hcj hu=>by
    rw[List.getElem?_map] at hcj
    cases hcc:(flat ws)[j]? with
    |none=>simp[hcc] at hcj
    |some c'=>simp[hcc] at hcj;subst hcj;exact (hc.2.2 j c' u hcc hu).drop1⟩
   have pl:∀ {us2:List Value} (j:Nat) (c:AV) (u:Value),((flat ws).map AV.drop1)[j]?=some c→us2[j]?=some u→(c.plain1=true∨∃b,(none:Option Nat)=some b∧Own1 G D (.obj b j) c u):=fun j c u hcj _=>by
    rw[List.getElem?_map] at hcj
    cases hcc:(flat ws)[j]? with
    |none=>simp[hcc] at hcj
    |some c'=>simp[hcc] at hcj;subst hcj;exact .inl (plain1_drop1 _)
   cases hxv with
   |nil=>exact ⟨[],by simp,dropR ⟨rfl,by simp,by simp⟩,pl, .inl ⟨⟨_,rfl⟩,rfl⟩⟩
   |void=>exact ⟨[],by simp,dropR ⟨rfl,by simp,by simp⟩,pl, .inl ⟨⟨_,rfl⟩,rfl⟩⟩
   |list _ _ _ g off m' cap us hn hc hw hl hF hv=>
    refine ⟨us,by rw[hl,flat_length hw],dropR ⟨hl.symm,fun j u hu=>(hF j u hu).2,hv⟩,pl, .inr ⟨g,off,cap,by rw[hn],fun j u hu=> ?_⟩⟩
    rw[add_addr]
    obtain ⟨cur,e',fz,q1,q2⟩:=h.world.frz _ _ _ (hF j u hu).1
    rw[cell_of_row w g (off+j) cur e' fz q1];exact q2
  ·rename_i hxa
   simp only[Option.some.injEq,Prod.mk.injEq] at hsrc
   obtain ⟨rfl,rfl,rfl⟩:=hsrc
   rw[hxa] at hxv
   cases hxv
   exact ⟨[],by simp,⟨rfl,by simp,by simp⟩,by simp, .inl ⟨⟨_,rfl⟩,rfl⟩⟩
  ·rename_i b k' cap' hxa
   split at hsrc
   case h_2=>simp at hsrc
   rename_i ds hds
   split at hsrc
   case isFalse=>simp at hsrc
   rename_i hle
   simp only[Option.some.injEq,Prod.mk.injEq] at hsrc
   obtain ⟨rfl,rfl,rfl⟩:=hsrc
   rw[hxa] at hxv
   cases hxv
   obtain ⟨p1,p2,p3,cur,e',p4,p5,p6⟩:=h.world.obj b ds hds
   have get:∀ {j:Nat} {u:Value},(cur.toList.take (k'*i.size))[j]?=some u→j<k'*i.size∧cur[j]?=some u:=fun {j u} hu=>by
    have hj:=(List.getElem?_eq_some_iff.1 hu).1
    simp at hj
    rw[List.getElem?_take_of_lt (by omega)] at hu
    exact ⟨by omega,by simpa using hu⟩
   have getc:∀ {j:Nat} {c:AV},(ds.take (k'*i.size))[j]?=some c→ds[j]?=some c:=fun {j c} hc=>by
    have hj:=(List.getElem?_eq_some_iff.1 hc).1
    simp at hj
    rwa[List.getElem?_take_of_lt (by omega)] at hc
   refine ⟨cur.toList.take (k'*i.size),by simp;omega,⟨by simp;omega,fun j u hu=> ?_,fun j c u hc hu=>(p6 j c u (getc hc) (get hu).2).2.1⟩,fun j c u hc hu=> .inr ⟨b,rfl,(p6 j c u (getc hc) (get hu).2).2.2⟩, .inr ⟨b,0,cap',rfl,fun j u hu=> ?_⟩⟩
   ·have hlt:j<ds.length:=by have:=(get hu).1;omega
    exact (p6 j _ u (List.getElem?_eq_getElem hlt) (get hu).2).1
   ·rw[add_addr,Nat.zero_add,cell_of_row w b j cur e' (0,0) p4];exact (get hu).2
  ·simp at hsrc
 obtain ⟨hxown,hxs⟩:=hxs
 have hone:∀u∈us2,u.oneCell'=true:=fun u hu=>by obtain ⟨j,hj⟩:=List.getElem?_of_mem hu;exact hc2.2.1 j u hj
 obtain ⟨us,hus,hc1,hbs⟩:∃us:List Value,us.length=m*i.size∧CellsR (fun c u=>VR G.F c u) old us∧(∀j c u,old[j]?=some c→us[j]?=some u→∃b,ob=some b∧Own1 G D (.obj b j) c u)∧
   ((sv= .slice none 0 0∧m=0∧ob=none)∨∃b cap cs cur e',sv= .slice (some ⟨b,0,none⟩) m cap∧ob=some b∧σ b=some cs∧cs.length=cap*i.size∧(m≤cap∧cap≤maxLen)∧w.heap[b]?=some (.cells cur e' (0,0))∧cs.length≤cur.size∧us=cur.toList.take (m*i.size)∧old=cs.take (m*i.size)):=by
  unfold rowOf at hrow
  split at hrow
  ·simp only[Option.some.injEq,Prod.mk.injEq] at hrow
   obtain ⟨rfl,rfl,rfl⟩:=hrow
   cases hsv
   exact ⟨[],by simp,⟨rfl,by simp,by simp⟩,by simp, .inl ⟨rfl,rfl,rfl⟩⟩
  ·rename_i b m' cap'
   split at hrow
   case h_2=>simp at hrow
   rename_i cs hcs
   split at hrow
   case isFalse=>simp at hrow
   rename_i hle
   simp only[Option.some.injEq,Prod.mk.injEq] at hrow
   obtain ⟨rfl,rfl,rfl⟩:=hrow
   cases hsv
   obtain ⟨p1,p2,p3,cur,e',p4,p5,p6⟩:=h.world.obj b cs hcs
   have hmul:m'*i.size≤cap'*i.size:=Nat.mul_le_mul_right _ hle.2.1
   have get:∀ {j:Nat} {u:Value},(cur.toList.take (m'*i.size))[j]?=some u→j<m'*i.size∧cur[j]?=some u:=fun {j u} hu=>by
    have hj:=(List.getElem?_eq_some_iff.1 hu).1
    simp at hj
    rw[List.getElem?_take_of_lt (by omega)] at hu
    exact ⟨by omega,by simpa using hu⟩
   have getc:∀ {j:Nat} {c:AV},(cs.take (m'*i.size))[j]?=some c→cs[j]?=some c:=fun {j c} hc=>by
    have hj:=(List.getElem?_eq_some_iff.1 hc).1
    simp at hj
    rwa[List.getElem?_take_of_lt (by omega)] at hc
   refine ⟨cur.toList.take (m'*i.size),by simp;omega,⟨by simp;omega,fun j u hu=> ?_,fun j c u hc hu=>(p6 j c u (getc hc) (get hu).2).2.1⟩,fun j c u hc hu=>⟨b,rfl,(p6 j c u (getc hc) (get hu).2).2.2⟩, .inr ⟨b,cap',cs,cur,e',rfl,rfl,hcs,hle.1,hle.2,p4,p5,rfl,rfl⟩⟩
   have hlt:j<cs.length:=by have:=(get hu).1;omega
   exact (p6 j _ u (List.getElem?_eq_getElem hlt) (get hu).2).1
  ·simp at hrow
 obtain ⟨hbown,hbs⟩:=hbs
 have hnl:new.length=k*i.size:=hc2.1.trans hus2
 have hol:old.length=m*i.size:=hc1.1.trans hus
 by_cases h0:k=0
 ·-- nothing is appended
  subst h0
  refine ⟨sa,sv,A,σ,G,w,hk0 rfl, .inl (run_of ?_),h,hsv, ?_,Ext.refl ..⟩
  ·have hu0:us2=[]:=List.eq_nil_of_length_eq_zero (by simpa using hus2)
   subst hu0
   rcases hbs with ⟨rfl,rfl,rfl⟩|⟨b,cap,cs,cur,e',rfl,rfl,hcs,hcap,hmc,hheap,hcur,_,_⟩
   ·rcases hxs with ⟨⟨xb,rfl⟩,_⟩|⟨g2,off2,cap2,rfl,_⟩
    ·exact run_append_none w ht hi none xb 0 0 (Nat.le_refl _)
    ·simp[Builtin.append_,run_underlying ht,sizeOf,typeInfo,hi,Builtin.lenOf,Builtin.firstCells,loadCells,loadCellsFrom]
   ·rcases hxs with ⟨⟨xb,rfl⟩,_⟩|⟨g2,off2,cap2,rfl,_⟩
    ·exact run_append_none w ht hi _ xb m cap hmc.1
    ·simp[Builtin.append_,run_underlying ht,sizeOf,typeInfo,hi,Builtin.lenOf,Builtin.firstCells,loadCells,loadCellsFrom,hmc.1,storeCells]
  ·have:sa.plain=true:=by
    unfold rowOf at hrow
    split at hrow<;>first|rfl|(simp at hrow;done)
   exact OwnAt.of_plain this
 have hkpos:0<k:=Nat.pos_of_ne_zero h0
 obtain ⟨g2,off2,cap2,rfl,hnews⟩:∃g2 off2 cap2,xv= .slice (some ⟨g2,off2,none⟩) k cap2∧∀(j:Nat) (u:Value),us2[j]?=some u→w.cell? ((⟨g2,off2,none⟩:Addr).add j)=some u:=by
  rcases hxs with ⟨_,h⟩|h
  ·exact absurd h h0
  ·exact h
 have hkeepslot:∀p g m' z' i' j,D g→G.S g=some (m',z', .slot i' j)→(G.mv D (toRow ob q p (m*i.size))).S g=some (m',z', .slot i' j):=fun p g m' z' i' j hd hg=>by rw[Ghost.mv_some hd hg];rfl
 have cellOk:∀(p tl:Nat) (j:Nat) (c:AV) (u:Value),(old++new++List.replicate tl AV.top)[j]?=some c→(j<(us++us2).length→(us++us2)[j]?=some u)→u.oneCell'=true→
   VR G.F c u∧Own1 (G.mv D (toRow ob q p (m*i.size))) D (.obj p j) c u:=by
  intro p tl j c u hc hu h1
  have hlen:(old++new).length=(us++us2).length:=by simp;omega
  rw[List.getElem?_append] at hc
  split at hc
  ·rename_i hj
   have hu':=hu (by omega)
   rw[List.getElem?_append] at hc hu'
   split at hc
   ·rename_i hj1
    rw[if_pos (by omega)] at hu'
    obtain ⟨b,hb,hown⟩:=hbown j c u hc hu'
    refine ⟨hc1.2.2 j c u hc hu',hown.re fun g n' z' hd hg=> ?_⟩
    rw[Ghost.mv_some hd hg];simp[toRow,hb]
   ·rename_i hj1
    rw[if_neg (by omega)] at hu'
    have he1:j-us.length=j-old.length:=by omega
    rw[he1] at hu'
    refine ⟨hc2.2.2 _ c u hc hu', ?_⟩
    rcases hxown _ c u hc hu' with hp|⟨b,hb,hown⟩
    ·exact Own1.of_plain hp
    ·refine hown.re fun g n' z' hd hg=> ?_
     rw[Ghost.mv_some hd hg]
     have hbo:ob≠some b:=fun hh=>hoq (by simp[hh]) (by rw[hh,hb])
     have:m*i.size+(j-old.length)=j:=by omega
     simp[toRow,hb,hbo,this]
  ·rw[List.getElem?_replicate] at hc
   split at hc
   ·simp at hc;subst hc;exact ⟨.top u,Own1.of_plain rfl⟩
   ·cases hc
 have grown:∀(oldc:Nat) (hg:(Builtin.append_ #[t,t] o.type #[sv, .slice (some ⟨g2,off2,none⟩) k cap2]).run P w=
       .ok (.slice (some ⟨w.heap.size,0,none⟩) (m+k) (grownCap w (m+k) oldc e)) (w.drew.alloc (.cells (us.toArray++us2.toArray++Builtin.zeroCells z.cells (grownCap w (m+k) oldc e-(m+k))) e))),Does P D n G a w o K:=by
  intro oldc hg
  have hge:=grownCap_ge w (m+k) oldc e
  have hcm:=grownCap_le_maxLen w (m+k) oldc e hmax
  have hD:=h.fresh _ (Nat.le_refl w.heap.size)
  have hn:σ w.heap.size=none:=by
   cases hs:σ w.heap.size with
   |none=>rfl
   |some x=>obtain ⟨_,_,_,c,e',h4,_⟩:=h.world.obj _ x hs;have:=(Array.getElem?_eq_some_iff.1 h4).1;omega
  have hfree:G.S w.heap.size=none∧∀i,G.F w.heap.size i=none:=by
   refine ⟨?_,fun i=> ?_⟩
   ·cases hs:G.S w.heap.size with
    |none=>rfl
    |some x=>obtain ⟨_,⟨c,e',⟨_,h2,_⟩,_⟩,_⟩:=h.world.own _ x.1 x.2.1 x.2.2 hs;have:=(Array.getElem?_eq_some_iff.1 h2).1;omega
   ·cases hF:G.F w.heap.size i with
    |none=>rfl
    |some u=>obtain ⟨c,e',fz,h1,_⟩:=h.world.frz _ i u hF;have:=(Array.getElem?_eq_some_iff.1 h1).1;omega
  have hzall:∀(j:Nat) (u:Value),(Builtin.zeroCells z.cells (grownCap w (m+k) oldc e-(m+k))).toList[j]?=some u→u.oneCell'=true:=fun j u hu=>by
   have hm:=List.mem_of_getElem? hu
   simp only[Builtin.zeroCells,Array.mem_toList_iff] at hm
   rw[Array.mem_map] at hm
   obtain ⟨y,hy,rfl⟩:=hm
   simp at hy
   have hlt:y % z.cells.size<z.cells.size:=Nat.mod_lt _ (by omega)
   rw[getElem!_pos z.cells _ hlt]
   exact List.all_eq_true.1 hzone _ (by simp)
  refine ⟨_,_,A,_,G.mv D (toRow ob q w.heap.size (m*i.size)),_,hk hkpos w.heap.size (grownCap w (m+k) oldc e) (.inr hn) hge hcm, .inl (run_of hg),h.step (fun _ _ _ h=>h) (hkeepslot _) ?_ (by simp), .lit _,OwnAt.of_plain rfl,Ext.drew.trans ((Ext.mv ..).trans (Ext.alloc (by simpa using h.fresh) _ _))⟩
  have hWd:=h.world.drew
  refine WR.objRow (w:=w.drew) hWd (cur':=us.toArray++us2.toArray++Builtin.zeroCells z.cells (grownCap w (m+k) oldc e-(m+k))) (e:=e) (fun ob hb=>by have:=(Array.getElem?_eq_some_iff.1 hb).1;simp at this) hfree hD ?_ (fun b ob' hb hne=> ?_) ?_ fun j c u hc hu=> ?_
  ·have:=heap_alloc_new w.drew (.cells (us.toArray++us2.toArray++Builtin.zeroCells z.cells (grownCap w (m+k) oldc e-(m+k))) e)
   simpa using this
  ·rw[Below.heap_alloc w.drew _ b (Array.getElem?_eq_some_iff.1 hb).1];exact hb
  ·simp[size_zeroCells,hzs,hus,hus2,hol,hnl];omega
  ·have hu':(us++us2++(Builtin.zeroCells z.cells (grownCap w (m+k) oldc e-(m+k))).toList)[j]?=some u:=by
    rw[←Array.getElem?_toList,Array.toList_append,Array.toList_append] at hu
    exact hu
   have h1:u.oneCell'=true:=by
    rw[List.getElem?_append] at hu'
    split at hu'
    ·rw[List.getElem?_append] at hu'
     split at hu'
     ·exact hc1.2.1 _ _ hu'
     ·exact hc2.2.1 _ _ hu'
    ·exact hzall _ _ hu'
   refine ⟨h1,cellOk _ _ j c u hc (fun hj=> ?_) h1⟩
   rwa[List.getElem?_append_left hj] at hu'
 rcases hbs with ⟨rfl,rfl,rfl⟩|⟨b,cap,cs,cur,e',rfl,rfl,hcs,hcap,hmc,hheap,hcur,hus',hold⟩
 ·have hu0:us=[]:=List.eq_nil_of_length_eq_zero (by simpa using hus)
  subst hu0
  have hr:=run_append_nil (P:=P) w t o.type e i z ht hi hiz ⟨g2,off2,none⟩ k cap2 us2 hus2 hnews (by omega) (hbig (by omega)) (by rw[Nat.zero_add] at hbytes;omega)
  exact grown 0 (by simpa using hr)
 ·by_cases hroom:m+k≤cap
  ·-- in place
   obtain ⟨p1,p2,p3,cur2,e2,q4,_,p6⟩:=h.world.obj b cs hcs
   rw[hheap] at q4
   simp only[Option.some.injEq,Obj.cells.injEq,and_true] at q4
   obtain ⟨rfl,rfl⟩:=q4
   have hmul:(m+k)*i.size≤cap*i.size:=Nat.mul_le_mul_right _ hroom
   rw[Nat.add_mul] at hmul
   have hfit:m*i.size+us2.length≤cur.size:=by omega
   have hst:=run_storeCells_at P b (m*i.size) e' us2 0 cur w hheap (by simpa using hfit) hone
   simp only[Nat.add_zero] at hst
   rw[toList_setRow hfit] at hst
   have hf:=run_firstCells_some (P:=P) w i.size k ⟨g2,off2,none⟩ k cap2 us2 hus2 hnews
   generalize hw':w.setRow b (setRange cur.toList (m*i.size) us2).toArray=w' at hst
   have hrun:(Builtin.append_ #[t,t] o.type #[.slice (some ⟨b,0,none⟩) m cap, .slice (some ⟨g2,off2,none⟩) k cap2]).run P w= .ok (.slice (some ⟨b,0,none⟩) (m+k) cap) w':=by
    simp[Builtin.append_,run_underlying ht,sizeOf,typeInfo,hi,Builtin.lenOf,hroom,hf,add_addr,hst]
   have hg':w'.heap[b]?=some (.cells (setRange cur.toList (m*i.size) us2).toArray e' (0,0)):=by subst hw';exact setRow_heap w b cur _ e' _ hheap
   have hoth:∀k,k≠b→w'.heap[k]?=w.heap[k]?:=fun k hk=>by subst hw';exact setRow_other w b k _ hk
   ·refine ⟨_,_,A,_,G.mv D (toRow (some b) q b (m*i.size)),w',hk hkpos b cap (.inl rfl) hroom hmc.2, .inl (run_of hrun),h.step (fun _ _ _ h=>h) (hkeepslot _) ?_ (by subst hw';simp), .lit _,OwnAt.of_plain rfl,(Ext.mv ..).trans ⟨by subst hw';rfl,by subst hw';rfl,by subst hw';rfl,by subst hw';simp,fun _ _ _ h=>h,fun k hk=> ?_⟩⟩
    ·refine WR.objRow h.world (fun ob hb=>by rw[hcs];simp) ⟨p2,p3⟩ p1 hg' (fun k ob' hb hne=>by rw[hoth k hne];exact hb) ?_ fun j c u hc hu=> ?_
     ·have:(cap-(m+k))*i.size=cap*i.size-(m+k)*i.size:=Nat.sub_mul ..
      have h3:(m+k)*i.size=m*i.size+k*i.size:=Nat.add_mul ..
      simp[setRange_length];omega
     ·have hu':(setRange cur.toList (m*i.size) us2)[j]?=some u:=by simpa using hu
      rw[setRange_get _ _ _ _ (by simpa using hfit)] at hu'
      have h1:u.oneCell'=true:=by
       split at hu'
       ·exact hc2.2.1 _ _ hu'
       ·have hjl:=(List.getElem?_eq_some_iff.1 hc).1
        have:(cap-(m+k))*i.size=cap*i.size-(m+k)*i.size:=Nat.sub_mul ..
        have h3:(m+k)*i.size=m*i.size+k*i.size:=Nat.add_mul ..
        simp at hjl
        have hlt:j<cs.length:=by omega
        exact (p6 j _ u (List.getElem?_eq_getElem hlt) (by simpa using hu')).1
      refine ⟨h1,cellOk _ _ j c u hc (fun hj=> ?_) h1⟩
      rw[List.getElem?_append]
      split at hu'
      ·rename_i hjj;rw[if_neg (by omega)];rwa[hus]
      ·rename_i hjj
       simp only[List.length_append] at hj
       rw[if_pos (by omega),hus',List.getElem?_take_of_lt (by omega)];exact hu'
    ·have hne:k≠b:=fun e=>hk (e▸p1)
     exact ⟨hoth k hne,rfl,rfl⟩
  ·-- a new row:what was is copied
   have holds:∀(j:Nat) (u:Value),us[j]?=some u→w.cell? ((⟨b,0,none⟩:Addr).add j)=some u:=fun j u hu=>by
    rw[add_addr,Nat.zero_add,cell_of_row w b j cur e' (0,0) hheap]
    subst hus'
    have hj:=(List.getElem?_eq_some_iff.1 hu).1
    simp at hj
    rw[List.getElem?_take_of_lt (by omega)] at hu
    simpa using hu
   have hr:=run_append_grow (P:=P) w t o.type e i z ht hi hiz ⟨b,0,none⟩ m cap us (by omega) holds ⟨g2,off2,none⟩ k cap2 us2 hus2 hnews (by omega) (hbig hmax) (growslice_fits (by omega) hbytes)
   exact grown cap hr
def aLoadTakeAgg (P:Program) (t:TypeId) (ad:AV) (A:Slots) (σ:Store) (K:AV→Slots→Store→Prop):Prop:=
 match tSize P t,ad with
 |some s, .lit (.pointer (some ⟨o,off,none⟩))=>match σ o with
  |some cs=>off+s≤cs.length∧K (.agg ((cs.drop off).take s)) A (σ.upd o (setRange cs off (((cs.drop off).take s).map AV.drop1)))
  |none=>False
 |_,_=>False
def fromObjAgg (o off s:Nat):Place→Place
 | .obj p j=>if p=o∧off≤j∧j<off+s then .acc (j-off) else .obj p j
 |π=>π
theorem aLoadTakeAgg_sound {P:Program} {D:Nat→Prop} {n:Nat} {G:Ghost} {A:Slots} {σ:Store} {a:Act} {w:World} (h:Rel D n G A σ a w) {o:Oper} {K:AV→Slots→Store→Prop} {t:TypeId} {y:Operand}
  (ho:o.op= .load t y) (hagg:tAgg P t=some true) (hK:aLoadTakeAgg P t (evalA A y) A σ K):Does P D n G a w o K:=by
 unfold aLoadTakeAgg at hK
 split at hK
 case h_2=>exact hK.elim
 rename_i s p off hs heq
 split at hK
 case h_2=>exact hK.elim
 rename_i cs hcs
 obtain ⟨hle,hK⟩:=hK
 have hy:=h.eval y
 rw[heq] at hy
 generalize hyv:a.eval y=yv at hy
 cases hy
 obtain ⟨p1,p2,p3,cur,e,p4,p5,p6⟩:=h.world.obj p cs hcs
 generalize hus:(cur.toList.drop off).take s=us
 have hlen:us.length=s:=by subst hus;simp;omega
 have key:∀(i:Nat) (c:AV) (u:Value),((cs.drop off).take s)[i]?=some c→us[i]?=some u→cs[off+i]?=some c∧cur[off+i]?=some u:=by
  intro i c u hc hu
  have hi:i<s:=by have:=(List.getElem?_eq_some_iff.1 hu).1;omega
  subst hus
  rw[List.getElem?_take_of_lt hi,List.getElem?_drop] at hc hu
  exact ⟨hc,by simpa using hu⟩
 have hlc:((cs.drop off).take s).length=s:=by simp;omega
 have keyu:∀(i:Nat) (u:Value),us[i]?=some u→∃c,((cs.drop off).take s)[i]?=some c:=fun i u hu=>by
  have hi:i<s:=by have:=(List.getElem?_eq_some_iff.1 hu).1;omega
  exact ⟨_,List.getElem?_eq_getElem (by omega)⟩
 refine ⟨_, .agg us.toArray,A,_,G.mv D (fromObjAgg p off s),w,hK, .inl ?_,h.step (fun _ _ _ h=>h) (fun g m z i j hd hg=>by rw[Ghost.mv_some hd hg];rfl) ?_ (Nat.le_refl _), .agg _ _ (by simp[hlen];omega) (fun i u hu=> ?_) (fun i c u hc hu=> ?_),(fun j c u hc hu=> ?_),Ext.mv ..⟩
 ·have:=run_loadCells_list (P:=P) w ⟨p,off,none⟩ us (fun j v hj=>by
   obtain ⟨c,hc⟩:=keyu j v hj
   rw[add_addr,cell_of_row w p (off+j) cur e (0,0) p4];exact (key j c v hc hj).2)
  rw[hlen] at this
  simp[execOp,ho,hyv,Instr.loadAt,Instr.sureAddr,loadVar,run_isAgg hagg,run_sizeOf hs,this]
 ·refine h.world.objTo hcs rfl (fun g m z π hg=>Ghost.mv_back hg) (fun g m z q i hd hq _ hg=>by rw[Ghost.mv_some hd hg];simp[fromObjAgg,hq]) p4 p4 (fun _ _=>rfl) (by simpa[setRange_length] using p5) fun i c' u hci hui=> ?_
  rw[setRange_get _ _ _ _ (by simp;omega)] at hci
  split at hci
  ·rename_i hi
   rw[List.getElem?_map] at hci
   simp only[List.length_map,hlc] at hi
   cases hcc:((cs.drop off).take s)[i-off]? with
   |none=>simp[hcc] at hci
   |some c0=>
    simp[hcc] at hci;subst hci
    rw[List.getElem?_take_of_lt (by omega),List.getElem?_drop] at hcc
    rw[show off+(i-off)=i by omega] at hcc
    obtain ⟨q1,q2,q3⟩:=p6 i c0 u hcc hui
    exact ⟨q1,q2.drop1,Own1.drop1 ..⟩
  ·rename_i hi
   simp only[List.length_map,hlc] at hi
   obtain ⟨q1,q2,q3⟩:=p6 i c' u hci hui
   refine ⟨q1,q2,q3.re fun g m z hd hg=> ?_⟩
   rw[Ghost.mv_some hd hg]
   simp only[fromObjAgg,true_and]
   rw[if_neg hi]
 ·have hu':us[i]?=some u:=by simpa using hu
  obtain ⟨c,hc⟩:=keyu i u hu'
  obtain ⟨k1,k2⟩:=key i c u hc hu'
  exact (p6 _ _ _ k1 k2).1
 ·have hu':us[i]?=some u:=by simpa using hu
  obtain ⟨k1,k2⟩:=key i c u hc hu'
  exact (p6 _ _ _ k1 k2).2.1
 ·have hu':us[j]?=some u:=by simpa using hu
  obtain ⟨k1,k2⟩:=key j c u hc hu'
  have hj:j<s:=by have:=(List.getElem?_eq_some_iff.1 hu').1;omega
  refine (p6 _ _ _ k1 k2).2.2.re fun g m z hd hg=> ?_
  rw[Ghost.mv_some hd hg]
  simp only[fromObjAgg]
  rw[if_pos ⟨trivial,by omega,by omega⟩]
  simp
theorem WR.freezeObj {D:Nat→Prop} {G:Ghost} {σ:Store} {w:World} (h:WR D G σ w) {p cap sz:Nat} {vs rest:List AV} (hcs:σ p=some (flat vs++rest)) (hcap:(flat vs++rest).length=cap*sz) (hm:cap≤maxLen) (hle:vs.length≤cap)
  (hw:∀v∈vs,v.cells.length=sz) (r:Nat→Place) (hr:∀o i,r 0≠ .obj o i):∃G',WR D G' (σ.del p) w∧VR G'.F (.list true sz vs) (.slice (some ⟨p,0,none⟩) vs.length cap)∧OwnAt G' D r (.list true sz vs) (.slice (some ⟨p,0,none⟩) vs.length cap)∧
   Ext D G w G' w∧(∀k,k≠p→G'.S k=G.S k)∧G.S p=none:=by
 obtain ⟨p1,p2,p3,cur,e,p4,p5,p6⟩:=h.obj p _ hcs
 have hfl:=flat_length hw
 have hlen:(flat vs).length≤cur.size:=by have:=p5;simp at this;omega
 have hW1:WR D (G.setS p (0,cur.size,r 0)) (σ.del p) w:=by
  refine ⟨h.frz,fun g n z ρ hg=> ?_,fun o cs ho=> ?_,h.laid,othKeep (G':=G.setS p (0,cur.size,r 0)) h (fun _ _ _ h=>h) (fun g=>del_mkey ..) fun k ob hi hk=>by
   have hne:k≠p:=fun e=>by subst e;have:=hi.1;rw[hcs] at this;cases this
   exact ⟨hk,by simp[hne,hi.1],by simp[Ghost.setS,hne,hi.2.1],hi.2.2⟩,varKeep (G':=G.setS p (0,cur.size,r 0)) h fun k ob hi hk=>by
   have hne:k≠p:=fun e=>by subst e;have:=hi.1;rw[hcs] at this;cases this
   exact ⟨hk,by simp[hne,hi.1],by rw[del_mkey];exact hi.2.1,by simp[Ghost.setS,hne,hi.2.2]⟩⟩
  ·simp only[Ghost.setS] at hg
   split at hg
   ·rename_i hgp;subst hgp
    simp only[Option.some.injEq,Prod.mk.injEq] at hg
    obtain ⟨rfl,rfl,rfl⟩:=hg
    exact ⟨by simp[Store.del],⟨cur,e, .of p4,rfl⟩,fun i _=>p3 i⟩
   ·obtain ⟨h1,h2⟩:=h.own g n z ρ hg
    refine ⟨?_,h2⟩
    simp only[del_nat];split
    ·rfl
    ·exact h1
  ·simp only[del_nat] at ho
   split at ho
   ·cases ho
   ·rename_i hop
    obtain ⟨q1,q2,q3,c,e',q4,q5,q6⟩:=h.obj o cs ho
    refine ⟨q1,by simp[Ghost.setS,hop,q2],q3,c,e',q4,q5,fun i cc u hc hu=> ?_⟩
    obtain ⟨s1,s2,s3⟩:=q6 i cc u hc hu
    refine ⟨s1,s2,s3.same fun g n z hd hg=> ?_⟩
    have hgp:g≠p:=fun e=>by subst e;rw[p2] at hg;cases hg
    simp[Ghost.setS,hgp,hg]
 have hS1:(G.setS p (0,cur.size,r 0)).S p=some (0,cur.size,r 0):=by simp[Ghost.setS]
 generalize hus:cur.toList.take (flat vs).length=us
 have husl:us.length=(flat vs).length:=by subst hus;simp;omega
 have hget:∀(i:Nat) (u:Value),us[i]?=some u→cur[i]?=some u:=fun i u hu=>by
  have hi:=(List.getElem?_eq_some_iff.1 hu).1
  subst hus
  rw[List.getElem?_take_of_lt (by omega)] at hu
  simpa using hu
 have hW2:=hW1.freeze hS1 hr p4 us (fun i u hu=>by simpa using hget i u hu) (r 0)
 generalize hG':Ghost.setS ⟨Frz.put (G.setS p (0,cur.size,r 0)).F p 0 us,(G.setS p (0,cur.size,r 0)).S⟩ p (0+us.length,cur.size,r 0)=G' at hW2
 have hGF:G'.F=Frz.put G.F p 0 us:=by subst hG';rfl
 have hmono:∀g i u,G.F g i=some u→G'.F g i=some u:=fun g i u hu=>by
  rw[hGF];exact Frz.put_mono (fun i _=>p3 i) g i u hu
 have hGS:∀k,k≠p→G'.S k=G.S k:=fun k hk=>by subst hG';simp[Ghost.setS,hk]
 have hGS0:G'.S p=some (us.length,cur.size,r 0):=by subst hG';simp[Ghost.setS]
 have cell:∀(i:Nat) (c:AV) (u:Value),(flat vs)[i]?=some c→us[i]?=some u→u.oneCell'=true∧VR G.F c u:=fun i c u hc hu=>by
  have hi:=(List.getElem?_eq_some_iff.1 hc).1
  obtain ⟨q1,q2,_⟩:=p6 i c u (by rw[List.getElem?_append_left hi];exact hc) (hget i u hu)
  exact ⟨q1,q2⟩
 refine ⟨G',hW2, .list true sz vs p 0 _ cap us rfl hle hw husl (fun i u hu=>⟨?_, ?_⟩) (fun i c u hc hu=>(cell i c u hc hu).2.mono hmono),Or.inr ⟨p1,cur.size, ?_, ?_,hm⟩,⟨rfl,rfl,rfl,Nat.le_refl _,hmono,fun k hk=> ?_⟩,hGS,p2⟩
 ·rw[hGF];exact Frz.put_at G.F p 0 us i u hu
 ·have hi:i<(flat vs).length:=by have:=(List.getElem?_eq_some_iff.1 hu).1;omega
  exact (cell i _ u (List.getElem?_eq_getElem hi) hu).1
 ·rw[hGS0,husl,hfl];simp
 ·simp only[Nat.zero_add];omega
 ·have hne:k≠p:=fun e=>hk (e▸p1)
  refine ⟨rfl,hGS k hne, ?_⟩
  rw[hGF];exact Frz.put_other hne
def pty (P:Program) (t:TypeId) (i:Nat):TypeId:=((tField P t i).map (·.2)).getD (((tArr P t).map (·.2)).getD 0)
def fillTake (P:Program) (t:TypeId):List (Nat×Operand)→List AV→Slots→(List AV→Slots→Prop)→Prop
 |[],cs,A,K=>K cs A
 |(i,x)::rest,cs,A,K=>match tPart P t i with
  |some (off,s)=>takeA A x fun v A'=>(conv P (pty P t i) v).solid=true∧(conv P (pty P t i) v).cells.length=s∧off+s≤cs.length∧fillTake P t rest (setRange cs off (conv P (pty P t i) v).cells) A' K
  |none=>False
def aBuildTake (P:Program) (raw:Bool) (t:TypeId) (parts:Array (Nat×Operand)) (A:Slots) (σ:Store) (K:AV→Slots→Store→Prop):Prop:=
 match tParts P t,azeroB P raw t with
 |true,some zs=>fillTake P t parts.toList zs A fun cs A'=>K (.agg cs) A' σ
 |_,_=>False
def CellsI (G:Ghost) (D:Nat→Prop) (cs:List AV) (us:List Value):Prop:=
 cs.length=us.length∧(∀(i:Nat) (u:Value),us[i]?=some u→u.oneCell'=true)∧∀(i:Nat) (c:AV) (u:Value),cs[i]?=some c→us[i]?=some u→VR G.F c u∧Own1 G D (.arg i 0) c u
def toPart (t off:Nat):Place→Place
 | .slot i j=>if i=t then .arg (off+j) 0 else .slot i j
 |π=>π
theorem fillTake_sound {P:Program} {t:TypeId} {D:Nat→Prop} {n:Nat} {σ:Store} {a:Act} {w:World} {place:Nat→Option (Nat×Nat)} (hp:∀i p,tPart P t i=some p→place i=some p):∀(parts:List (Nat×Operand)) (cs:List AV) (us:Array Value) {G:Ghost} {A:Slots} {K:List AV→Slots→Prop},
  Rel D n G A σ a w→CellsI G D cs us.toList→fillTake P t parts cs A K→
  ∃us' cs' A' G',K cs' A'∧Instr.fill place us (parts.map fun p=>(p.1,a.eval p.2))=some us'∧Rel D n G' A' σ a w∧CellsI G' D cs' us'.toList∧Ext D G w G' w
 |[],cs,us,G,A,K,h,hc,hK=>⟨us,cs,A,G,hK,rfl,h,hc,Ext.refl ..⟩
 |(i,x)::rest,cs,us,G,A,K,h,hc,hK=>by
  simp only[fillTake] at hK
  split at hK
  case h_2=>exact hK.elim
  rename_i off s hpt
  obtain ⟨v,A1,G1,⟨k1,k2,k3,k4⟩,hR1,hv1,ho1,hext1,hF1,hkeep⟩:∃v A1 G1,((conv P (pty P t i) v).solid=true∧(conv P (pty P t i) v).cells.length=s∧off+s≤cs.length∧fillTake P t rest (setRange cs off (conv P (pty P t i) v).cells) A1 K)∧
    Rel D n G1 A1 σ a w∧VR G1.F v (a.eval x)∧OwnAt G1 D (fun j=> .arg (off+j) 0) v (a.eval x)∧Ext D G w G1 w∧G1.F=G.F∧∀g m z i j,D g→G.S g=some (m,z, .arg i j)→G1.S g=some (m,z, .arg i j):=by
   have plain:∀y:Operand,(evalA A y).plain=true→y=x→takeA A y (fun v A'=>(conv P (pty P t i) v).solid=true∧(conv P (pty P t i) v).cells.length=s∧off+s≤cs.length∧fillTake P t rest (setRange cs off (conv P (pty P t i) v).cells) A' K)→(∀K2,takeA A y K2→K2 (evalA A y) A)→
     ∃v A1 G1,((conv P (pty P t i) v).solid=true∧(conv P (pty P t i) v).cells.length=s∧off+s≤cs.length∧fillTake P t rest (setRange cs off (conv P (pty P t i) v).cells) A1 K)∧
     Rel D n G1 A1 σ a w∧VR G1.F v (a.eval x)∧OwnAt G1 D (fun j=> .arg (off+j) 0) v (a.eval x)∧Ext D G w G1 w∧G1.F=G.F∧∀g m z i j,D g→G.S g=some (m,z, .arg i j)→G1.S g=some (m,z, .arg i j):=by
    rintro y hpl rfl hk hk2
    exact ⟨_,A,G,hk2 _ hk,h,h.eval y,OwnAt.of_plain hpl,Ext.refl ..,rfl,fun _ _ _ _ _ _ h=>h⟩
   cases x with
   |const c=>exact plain (.const c) rfl rfl hK (fun _ h=>h)
   |global g=>exact plain (.global g) (evalA_global_plain A g) rfl hK (fun _ h=>h)
   |func f=>exact plain (.func f) rfl rfl hK (fun _ h=>h)
   |tmp u=>
    refine ⟨A u,_,G.mv D (toPart u off),hK,⟨h.defers,h.size,fun i=> ?_,fun i=> ?_,h.world.mv _ (fun _ _=>rfl),h.fresh⟩,h.val u, ?_,Ext.mv ..,rfl,fun g m z i j hd hg=>by rw[Ghost.mv_some hd hg];rfl⟩
    ·simp only[upd];split
     ·rename_i hi;subst hi;exact (h.val i).share
     ·exact h.val i
    ·simp only[upd];split
     ·exact OwnAt.share ..
     ·rename_i hi
      exact (h.own i).re fun g m z j hd hg=>by rw[Ghost.mv_some hd hg];simp[toPart,hi]
    ·exact (h.own u).re fun g m z j hd hg=>by rw[Ghost.mv_some hd hg];simp[toPart]
  have hv':VR G1.F (conv P (pty P t i) v) (a.eval x):=conv_VR hv1
  have ho':OwnAt G1 D (fun j=> .arg (off+j) 0) (conv P (pty P t i) v) (a.eval x):=conv_own hv1 ho1
  generalize conv P (pty P t i) v=v2 at k1 k2 k3 k4 hv' ho'
  obtain ⟨c1,c2,c3⟩:=hv'.cellsR k1
  obtain ⟨d1,d2,d3⟩:=hc
  have hsz:(a.eval x).cells.size=s:=by simp at c1;omega
  have hus:cs.length=us.size:=by simpa using d1
  have hset:=foldl_set (a.eval x).cells.toList us off 0
  have hI:CellsI G1 D (setRange cs off v2.cells) (setRange us.toList off (a.eval x).cells.toList):=by
   refine ⟨by simp[setRange_length,d1],fun j u hu=> ?_,fun j c u hcj hu=> ?_⟩
   ·rw[setRange_get _ _ _ _ (by simp;omega)] at hu
    split at hu
    ·exact c2 _ _ hu
    ·exact d2 _ _ hu
   ·rw[setRange_get _ _ _ _ (by simp;omega)] at hu
    rw[setRange_get _ _ _ _ (by omega)] at hcj
    simp only[Array.length_toList,hsz] at hu
    rw[k2] at hcj
    split at hu
    ·rename_i hj;rw[if_pos hj] at hcj
     refine ⟨c3 _ _ _ hcj hu, ?_⟩
     have:=ho'.cells hv' k1 (j-off) c u hcj (by simpa using hu)
     rwa[show off+(j-off)=j by omega] at this
    ·rename_i hj;rw[if_neg hj] at hcj
     obtain ⟨q1,q2⟩:=d3 j c u hcj hu
     exact ⟨by rw[hF1];exact q1,q2.same fun g m z hd hg=>hkeep g m z j 0 hd hg⟩
  obtain ⟨us',cs',A',G',r1,r2,r3,r4,r5⟩:=fillTake_sound hp rest (setRange cs off v2.cells) ((a.eval x).cells.zipIdx.foldl (fun cs p=>cs.setIfInBounds (off+p.2) p.1) us) hR1 (by
    rw[←Array.foldl_toList]
    simp only[Nat.add_zero,Array.toList_zipIdx] at hset⊢
    rw[hset];exact hI) k4
  refine ⟨us',cs',A',G',r1, ?_,r3,r4,hext1.trans r5⟩
  simp only[List.map_cons,Instr.fill,hp i _ hpt,hsz]
  rw[if_neg (by simp;omega)]
  exact r2
def fromPart:Place→Place
 | .arg p 0=> .acc p
 |π=>π
theorem aBuildTake_sound {P:Program} {D:Nat→Prop} {n:Nat} {G:Ghost} {A:Slots} {σ:Store} {a:Act} {w:World} (h:Rel D n G A σ a w) {o:Oper} {K:AV→Slots→Store→Prop} {t:TypeId} {parts:Array (Nat×Operand)}
  {raw:Bool} (ho:o.op= .build t parts) (hK:aBuildTake P raw t parts A σ K):Does P D n G a w o K:=by
 unfold aBuildTake at hK
 split at hK
 case h_2=>exact hK.elim
 rename_i zs hb hz
 obtain ⟨z,hz1,hz2⟩:=azeroB_sound hz G.F
 have h0:CellsI G D zs z.cells.toList:=⟨hz2.1,hz2.2.1,fun i c u hc hu=>⟨(hz2.2.2 i c u hc hu).1,(hz2.2.2 i c u hc hu).own ..⟩⟩
 have fin:∀ {place:Nat→Option (Nat×Nat)},(∀i p,tPart P t i=some p→place i=some p)→(∀us',Instr.fill place z.cells (parts.toList.map fun p=>(p.1,a.eval p.2))=some us'→(Instr.build t (parts.map fun p=>(p.1,a.eval p.2))).run P w= .ok (.agg us') w)→Does P D n G a w o K:=by
  intro place hp hrun
  obtain ⟨us',cs',A',G',r1,r2,r3,r4,r5⟩:=fillTake_sound hp parts.toList zs z.cells h h0 hK
  have hR:Rel D n (G'.mv D fromPart) A' σ a w:=⟨r3.defers,r3.size,r3.val,fun i=>(r3.own i).re fun g m z j hd hg=>by rw[Ghost.mv_some hd hg];rfl,r3.world.mv _ (fun _ _=>rfl),r3.fresh⟩
  refine ⟨_, .agg us',A',σ,G'.mv D fromPart,w,r1, .inl ?_,hR, .agg _ _ (by simpa using r4.1) (fun i u hu=>r4.2.1 i u (by simpa using hu)) (fun i c u hc hu=>(r4.2.2 i c u hc (by simpa using hu)).1),fun j c u hc hu=> ?_,r5.trans (Ext.mv ..)⟩
  ·simp[execOp,ho,hrun us' r2]
  ·exact (r4.2.2 j c u hc (by simpa using hu)).2.re fun g m z hd hg=>by rw[Ghost.mv_some hd hg];rfl
 unfold tParts at hb
 cases hu:P.underlying t with
 |none=>simp[hu] at hb
 |some d=>
  cases d with
  |struct fs=>
   refine fin (place:=((fs.toList.map fun f=>(f.offset,(tSize P f.type).getD 0)).toArray[·]?)) (fun i p hp=> ?_) fun us' hf=> ?_
   ·have ha:tArr P t=none:=by simp[tArr,hu]
    simp only[tPart,ha,tField,hu,Option.bind_some] at hp
    cases hf:fs[i]? with
    |none=>simp[hf] at hp
    |some f=>
     simp[hf] at hp
     obtain ⟨s,hs,rfl⟩:=hp
     simp[hf,hs]
   ·have hm:=mapM_sizes (P:=P) w fs.toList (by intro f hf;simp only[hu,Option.any_some] at hb;exact List.all_eq_true.1 hb f hf)
    have hm':(fs.mapM fun f=>(do pure (f.offset,←sizeOf f.type):Sem (Nat×Nat))).run P w= .ok (fs.toList.map fun f=>(f.offset,(tSize P f.type).getD 0)).toArray w:=by
     rw[Array.mapM_eq_mapM_toList,Sem.run_map,hm]
     rfl
    simp only[Instr.build,Sem.run_bind,run_zeroValue hz1,Result.andThen_ok,run_underlying hu,hm',Array.toList_map,hf]
    simp
  |array m e=>
   have ha:tArr P t=some (m,e):=by simp[tArr,hu]
   cases hs:tSize P e with
   |none=>simp[hu,hs] at hb
   |some s=>
    refine fin (place:=fun i=>some (i*s,s)) (fun i p hp=>by simpa[tPart,ha,hs] using hp) fun us' hf=> ?_
    simp only[Instr.build,Sem.run_bind,run_zeroValue hz1,Result.andThen_ok,run_underlying hu,run_sizeOf hs,Array.toList_map,hf]
    simp
  |_=>simp[hu] at hb
end Go.AL
