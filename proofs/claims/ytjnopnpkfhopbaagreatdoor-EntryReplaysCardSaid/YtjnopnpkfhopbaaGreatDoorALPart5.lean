/-
 The abstract-state logic: a region that draws its order, second part: an operation that only computes may be moved ahead of others; the plan of a region.
-/
import Derived.Test.YtjnopnpkfhopbaaGreatDoorALPart4
import Derived.LoopN
set_option linter.unusedSimpArgs false
set_option linter.unusedVariables false
set_option maxRecDepth 8000
set_option maxHeartbeats 8000000
namespace Go.AL
open Go Go.RowKit Classical
variable [GL]
set_option linter.unusedSectionVars false
theorem aoper_frame {P:Program} {st:List Tmp} {o:Oper} {A:Slots} {σ:Store} {d:Tmp} {x:AV} {K:AV→Slots→Store→Prop} (hd:d∉temps o.op.operands.toList) (h:aoper P st o (upd A d x) σ K):
  aoper P st o A σ fun v A' σ'=>K v (upd A' d x) σ':=by
 have ap:∀τ,apure P o (upd A d x) τ=apure P o A τ:=fun τ=>apure_congr fun t ht=>upd_other (fun e=>by subst e;exact hd ht) x
 have pml:∀ {τ},(match apure P o (upd A d x) τ with|some v=>K v (upd A d x) σ|none=>False)→(match apure P o A τ with|some v=>K v (upd A d x) σ|none=>False):=fun {τ} =>by rw[ap];exact id
 have pm:(match apure P o (upd A d x) σ with|some v=>K v (upd A d x) σ|none=>False)→(match apure P o A σ with|some v=>K v (upd A d x) σ|none=>False):=pml
 have ev:∀y∈o.op.operands.toList,d∉temps [y]:=fun y hy hm=>hd (temps_of hy hm)
 have as:astep P st o (upd A d x) σ K→astep P st o A σ fun v A' σ'=>K v (upd A' d x) σ':=by
  intro h
  unfold astep at*
  cases hop:o.op with
  |assign y=>
   rw[hop] at h ev
   dsimp only at*
   rw[evalA_upd (ev y (by simp[Op.operands]))] at h
   split at h
   ·rename_i hs;rw[if_pos hs];exact h
   rename_i hs0;rw[if_neg hs0]
   split at h
   ·rename_i hs;rw[if_pos hs];exact takeA_frame (ev y (by simp[Op.operands])) h
   ·rename_i hs;rw[if_neg hs];exact takeA_frame (ev y (by simp[Op.operands])) h
  |move y=>
   rw[hop] at h ev
   cases y with
   |tmp t=>
    have ht:=ev (.tmp t) (by simp[Op.operands])
    dsimp only at*
    split at h
    ·rename_i hs;rw[if_pos hs];exact takeA_frame ht h
    ·rename_i hs;rw[if_neg hs];rwa[upd_other (fun e=>ht (by simp[temps,e]))] at h
   |_=>exact pm h
  |load t y=>
   rw[hop] at h ev
   have hy:=ev y (by simp[Op.operands])
   dsimp only at*
   split at h
   ·rename_i hs;rw[if_pos hs]
    rw[evalA_upd hy] at h
    unfold aLoadTake aLoadTakeAgg at*
    (repeat' split at h)<;>first|exact h|exact False.elim h
   ·rename_i hs;rw[if_neg hs]
    have hl:=pml h
    exact hl
  |alloc e=>rw[hop] at h;exact h
  |box e y=>
   rw[hop] at h ev
   have hy:=ev y (by simp[Op.operands])
   dsimp only[aBox,aBoxFix] at*
   split at h
   ·rename_i hs;rw[if_pos hs];exact takeA_frame hy h
   ·rename_i hs;rw[if_neg hs];exact takeA_frame hy h
  |store t y z=>
   rw[hop] at h ev
   have hy:=ev y (by simp[Op.operands])
   have hz:=ev z (by simp[Op.operands])
   dsimp only at*
   rw[evalA_upd hy] at h
   unfold aStore at*
   have fx:∀ {v:AV} {A':Slots} {σ':Store},fixK st y K v (upd A' d x) σ'→fixK st y (fun v A' σ'=>K v (upd A' d x) σ') v A' σ':=fun {v A' σ'} hh=>by
    unfold fixK at*
    split
    ·rename_i hs;rw[if_pos hs] at hh
     cases y with
     |tmp t=>
      have htd:¬t=d:=fun e=>hy (by simp[temps,e])
      dsimp only at*
      rw[upd_other htd] at hh
      (repeat' split at hh)<;>first
       |(rw[upd_comm A' htd];exact hh)
       |(rw[upd_comm A' (Ne.symm htd)];exact hh)
       |exact hh
     |_=>exact hh
    ·rename_i hs;rw[if_neg hs] at hh
     exact hh
   split at h
   ·split at h
    ·exact takeA_mono (takeA_frame hz h) fun v A' ⟨q1,q2,q3,q4⟩=>⟨q1,q2,q3,fx q4⟩
    ·exact h
   ·exact h
  |buildSlice t len parts=>
   rw[hop] at h ev
   have:nodeOf parts (upd A d x)=nodeOf parts A:=by
    unfold nodeOf
    exact List.map_congr_left fun p hp=>by rw[evalA_upd (ev p.2 (by simp[Op.operands];exact ⟨p.1,by simpa using hp⟩))]
   dsimp only at*
   split at h
   ·rename_i hs;rw[if_pos hs]
    unfold aBuildObj at*
    split at h
    ·exact h
    ·rename_i e x he hparts
     have hx:d∉temps [x]:=ev x (by
      simp only[Op.operands,hparts];simp)
     split at h
     ·obtain ⟨q1,q2,q3,q4,h⟩:=h
      exact ⟨q1,q2,q3,q4,takeA_frame hx h⟩
     ·exact h
    ·rw[this] at h;exact h
    ·exact h
   ·rename_i hs;rw[if_neg hs]
    rwa[this] at h
  |build t parts=>
   rw[hop] at h ev
   dsimp only at*
   split at h
   ·rename_i hs;rw[if_pos hs]
    unfold aBuildTake at*
    split at h
    ·exact fillTake_frame _ _ (fun p hp=>ev p.2 (by simp[Op.operands];exact ⟨p.1,by simpa using hp⟩)) h
    ·exact h
   ·rename_i hs;rw[if_neg hs];exact pm h
  |makeSlice t y z=>
   rw[hop] at h ev
   have hy:=ev y (by simp[Op.operands])
   have hz:=ev z (by simp[Op.operands])
   dsimp only at*
   rwa[evalA_upd hy,evalA_upd hz] at h
  |binOp op t y z t'=>
   rw[hop] at h ev
   have hy:=ev y (by simp[Op.operands])
   dsimp only at*
   split at h
   ·rename_i hs;rw[if_pos hs]
    rw[evalA_upd hy] at h
    cases op<;>first
     |exact False.elim h
     |(dsimp only[aNilTest] at*
       split at h
       ·exact h
       ·exact h
       ·exact h
       ·exact h)
   ·rename_i hs;rw[if_neg hs];exact pm h
  |convert src dst y=>
   rw[hop] at h ev
   have hy:=ev y (by simp[Op.operands])
   dsimp only at*
   split at h
   ·rename_i hs;rw[if_pos hs]
    obtain ⟨q1,q2,q3⟩:=h
    refine ⟨q1,q2,takeA_mono (takeA_frame hy q3) fun v A' hh=> ?_⟩
    split at hh
    ·exact hh
    ·exact hh
   rename_i hs;rw[if_neg hs]
   split at h
   ·rename_i hs2;rw[if_pos hs2]
    rw[evalA_upd hy] at h
    unfold aConvRow at*
    split at h
    ·exact h
    ·exact h
    ·refine ⟨h.1,h.2.1, ?_⟩
     have h3:=h.2.2
     split at h3
     ·refine ⟨h3.1, ?_⟩
      have h4:=h3.2
      split at h4
      ·exact h4
      ·exact h4
     ·exact h3
    ·exact h
    ·exact h
   ·rename_i hs2;rw[if_neg hs2];exact pm h
  |slice t y lo hi mx=>
   rw[hop] at h ev
   simp only[Op.operands,Array.toList_append] at ev
   have hy:=ev y (by simp)
   dsimp only at*
   split at h
   ·rename_i hs;rw[if_pos hs]
    have hlo:lo.map (evalA (upd A d x))=lo.map (evalA A):=by
     cases lo with
     |none=>rfl
     |some z=>simp[evalA_upd (ev z (by simp))]
    rw[hlo] at h
    unfold aSliceOwn at*
    refine takeA_mono (takeA_frame hy h) fun v A' hh=> ?_
    split at hh
    ·split at hh
     ·exact hh
     ·exact hh
    ·exact hh
   ·rename_i hs;rw[if_neg hs];exact pm h
  |extract y ix=>
   rw[hop] at h ev
   cases y with
   |tmp t=>
    have ht:=ev (.tmp t) (by simp[Op.operands])
    have hne:t≠d:=fun e=>ht (by simp[temps,e])
    dsimp only[aExtract] at*
    rw[upd_other hne] at h
    split at h
    ·split at h
     ·rwa[upd_comm A (Ne.symm hne)] at h
     ·exact h
    ·exact h
   |_=>exact pm h
  |call c=>
   rw[hop] at h ev
   simp only[Op.operands,Call.operands,Array.toList_append,List.mem_append] at ev
   dsimp only at*
   split at h
   ·rename_i s y t t' hc hargs hts
    have hs:=ev s (.inr (by rw[hargs];simp))
    have hy:=ev y (.inr (by rw[hargs];simp))
    split at h
    ·rename_i htt;rw[if_pos htt]
     split at h
     ·rename_i hso;rw[if_pos hso]
      rw[evalA_upd hy] at h
      split at h
      ·rename_i hr;rw[if_pos hr]
       unfold aAppendRow at*
       rw[evalA_upd hy,evalA_upd hs] at h
       (repeat' split at h)<;>first
        |exact False.elim h
        |exact h
      ·rename_i hr;rw[if_neg hr]
       unfold aAppendObj at*
       rw[evalA_upd hy,evalA_upd hs] at h
       (repeat' split at h)<;>first
        |exact False.elim h
        |exact h
     ·rename_i hso;rw[if_neg hso]
      unfold aAppend at*
      rw[evalA_upd hy] at h
      split at h
      ·split at h
       ·split at h
        ·exact takeA_mono (takeA_frame hs h) fun v A' h3=>by
          split at h3
          ·obtain ⟨q1,q2,q3,q4,q5,q6,q7⟩:=h3;exact ⟨q1,q2,q3,q4,q5,q6,q7⟩
          ·exact h3
        ·exact h
       ·exact h
      ·exact h
    ·rename_i htt;rw[if_neg htt]
     unfold aAppendStr at*
     rw[evalA_upd hy] at h
     split at h
     ·split at h
      ·split at h
       ·exact takeA_mono (takeA_frame hs h) fun v A' h3=>by
         split at h3
         ·obtain ⟨q1,q2,q3,q4,q5,q6,q7⟩:=h3;exact ⟨q1,q2,q3,q4,q5,q6,q7⟩
         ·exact h3
       ·exact h
      ·exact h
     ·exact h
   ·rename_i y z t t' hc hargs hts
    have hy:=ev y (.inr (by rw[hargs];simp))
    have hz:=ev z (.inr (by rw[hargs];simp))
    unfold aCopy at*
    rw[evalA_upd hy,evalA_upd hz] at h
    split at h
    ·exact h
    ·exact h
   ·rename_i y t hc hargs hts
    have hy:=ev y (.inr (by rw[hargs];simp))
    split at h
    ·rename_i hs;rw[if_pos hs]
     unfold aMapLen at*
     rw[evalA_upd hy] at h
     (repeat' split at h)<;>first|exact h.elim|exact h
    ·rename_i hs;rw[if_neg hs];exact pm h
   ·exact pm h
  |makeMap t r=>rw[hop] at h ev;exact aOth_congr (fun y hy=>evalA_upd (ev y hy)) h
  |mapUpdate t m k x=>rw[hop] at h ev;exact aOth_congr (fun y hy=>evalA_upd (ev y hy)) h
  |lookup t m k ok=>rw[hop] at h ev;exact aOth_congr (fun y hy=>evalA_upd (ev y hy)) h
  |range t x=>rw[hop] at h ev;exact aOth_congr (fun y hy=>evalA_upd (ev y hy)) h
  |next it b=>rw[hop] at h ev;exact aOth_congr (fun y hy=>evalA_upd (ev y hy)) h
  |entry it=>rw[hop] at h ev;exact aOth_congr (fun y hy=>evalA_upd (ev y hy)) h
  |_=>rw[hop] at h;exact pm h
 unfold aoper at*
 cases hop:o.op with
 |call c=>
  rw[hop] at h ev
  simp only[Op.operands,Call.operands,Array.toList_append,List.mem_append] at ev
  dsimp only at*
  cases hc:c.callee with
  |value f=>
   rw[hc] at h ev
   have hf:=ev f (.inl (by simp))
   have hargs:d∉temps c.args.toList:=fun hm=>by
    simp only[temps,List.mem_filterMap] at hm
    obtain ⟨z,hz,hz'⟩:=hm
    refine ev z (.inr hz) ?_
    cases z<;>simp_all[temps]
   dsimp only at*
   rw[evalA_upd hf] at h
   split at h
   ·exact takeArgs_frame _ _ hargs h
   ·exact h
  |_=>rw[hc] at h;exact as h
 |_=>rw[hop] at h;exact as h
theorem takeA_eff {A:Slots} {y:Operand} {K:AV→Slots→Prop} (h:takeA A y K):takeA A y fun v A'=>K v A'∧∀t,t∉temps [y]→A' t=A t:=by
 cases y with
 |tmp t=>exact ⟨h,fun u hu=>upd_other (fun e=>hu (by simp[temps,e])) _⟩
 |_=>exact ⟨h,fun _ _=>rfl⟩
theorem takeArgs_eff {P:Program} :∀(ys:List Operand) (ts:List TypeId) {A:Slots} {K:List AV→Slots→Prop},takeArgs P ys ts A K→takeArgs P ys ts A fun v A'=>K v A'∧∀t,t∉temps ys→A' t=A t
 |[],_,_,_,h=>⟨h,fun _ _=>rfl⟩
 |y::ys,ts,A,K,h=>takeA_mono (takeA_eff h) fun v A1 ⟨h1,e1⟩=>takeArgs_mono ys ts.tail (takeArgs_eff ys ts.tail h1) fun vs A2 ⟨h2,e2⟩=>⟨h2,fun t ht=>by
  have:temps (y::ys)=temps [y]++temps ys:=by cases y<;>rfl
  rw[this] at ht
  simp only[List.mem_append,not_or] at ht
  exact (e2 t ht.2).trans (e1 t ht.1)⟩
theorem fillTake_eff {P:Program} {t:TypeId} :∀(parts:List (Nat×Operand)) (cs:List AV) {A:Slots} {K:List AV→Slots→Prop},fillTake P t parts cs A K→fillTake P t parts cs A fun v A'=>K v A'∧∀t,t∉temps (parts.map (·.2))→A' t=A t
 |[],_,_,_,h=>⟨h,fun _ _=>rfl⟩
 |(i,y)::rest,cs,A,K,h=>by
  simp only[fillTake] at*
  split at h
  ·refine takeA_mono (takeA_eff h) fun v A1 ⟨⟨h1,h2,h3,h4⟩,e1⟩=>⟨h1,h2,h3,fillTake_mono rest _ (fillTake_eff rest _ h4) fun vs A2 ⟨h5,e2⟩=>⟨h5,fun t ht=> ?_⟩⟩
   have:temps (((i,y)::rest).map (·.2))=temps [y]++temps (rest.map (·.2)):=by cases y<;>rfl
   rw[this] at ht
   simp only[List.mem_append,not_or] at ht
   exact (e2 t ht.2).trans (e1 t ht.1)
  ·exact h
theorem temps_arg {xs ys:List Operand} {t:Tmp} (hs:∀y∈ys,y∈xs) (h:t∉temps xs):t∉temps ys:=fun hm=>by
 simp only[temps,List.mem_filterMap] at hm
 obtain ⟨z,hz,hz'⟩:=hm
 refine h (temps_of (hs z hz) ?_)
 cases z<;>simp_all[temps]
theorem put_le {σ:Store} {p:Nat} {cs:List AV} (h:σ (mkey p)=none):σ.le (σ.put p cs):=fun o c ho=>by
 unfold Store.put
 split
 ·rename_i e;subst e;rw[h] at ho;cases ho
 ·exact ho
theorem upd_le {σ:Store} {p:Nat} {cs:List AV} (h:σ p=none):σ.le (σ.upd p cs):=fun o c ho=>by
 have:o≠p:=fun e=>by subst e;rw[h] at ho;cases ho
 simp[Store.upd,this,ho]
theorem aoper_eff {P:Program} {st:List Tmp} {o:Oper} {A:Slots} {σ:Store} {K:AV→Slots→Store→Prop} (h:aoper P st o A σ K):
  aoper P st o A σ fun v A' σ'=>K v A' σ'∧(∀t,t∉temps o.op.operands.toList→A' t=A t)∧(growOp st o=true→(isLoad o=true→steals st o=false)→σ.le σ'):=by
 let E:Slots→Store→Prop:=fun A' σ'=>(∀t,t∉temps o.op.operands.toList→A' t=A t)∧(growOp st o=true→(isLoad o=true→steals st o=false)→σ.le σ')
 have triv:E A σ:=⟨fun _ _=>rfl,fun _ _=>fun _ _ h=>h⟩
 have pml:∀ {τ},(match apure P o A τ with|some v=>K v A σ|none=>False)→(match apure P o A τ with|some v=>K v A σ∧E A σ|none=>False):=by
  intro τ h;split at h
  ·exact ⟨h,triv⟩
  ·exact h
 have pm:(match apure P o A σ with|some v=>K v A σ|none=>False)→(match apure P o A σ with|some v=>K v A σ∧E A σ|none=>False):=pml
 have tk:∀(y:Operand),y∈o.op.operands.toList→∀ {A':Slots} {σ':Store},(∀t,t∉temps [y]→A' t=A t)→(growOp st o=true→(isLoad o=true→steals st o=false)→σ.le σ')→E A' σ':=fun y hy A' σ' h1 h2=>
  ⟨fun t ht=>h1 t (temps_arg (fun z hz=>by simp at hz;subst hz;exact hy) ht),h2⟩
 have as:astep P st o A σ K→astep P st o A σ fun v A' σ'=>K v A' σ'∧E A' σ':=by
  intro h
  unfold astep at*
  cases hop:o.op with
  |assign y=>
   rw[hop] at h tk
   dsimp only at*
   split at h
   ·rename_i hs;rw[if_pos hs];exact aFreeze_mono h fun _ _ hh=>⟨hh,fun _ _=>rfl,fun hg=>by have hs2:=(Bool.and_eq_true _ _▸hs:_∧_).1;simp[growOp,pureOp,hop,hs2] at hg⟩
   rename_i hs0;rw[if_neg hs0]
   split at h
   ·rename_i hs;rw[if_pos hs];exact takeA_mono (takeA_eff h) fun v A' ⟨h1,h2⟩=>⟨h1,tk y (by simp[Op.operands]) h2 fun _ _ _ _ h=>h⟩
   ·rename_i hs;rw[if_neg hs];exact takeA_mono (takeA_eff h) fun v A' ⟨h1,h2⟩=>⟨h1,tk y (by simp[Op.operands]) h2 fun _ _ _ _ h=>h⟩
  |move y=>
   rw[hop] at h tk
   cases y with
   |tmp t=>
    dsimp only at*
    split at h
    ·rename_i hs;rw[if_pos hs];exact takeA_mono (takeA_eff h) fun v A' ⟨h1,h2⟩=>⟨h1,tk _ (by simp[Op.operands]) h2 fun _ _ _ _ h=>h⟩
    ·rename_i hs;rw[if_neg hs];exact ⟨h,triv⟩
   |_=>exact pm h
  |load t y=>
   rw[hop] at h
   dsimp only at*
   split at h
   ·rename_i hs;rw[if_pos hs]
    unfold aLoadTake aLoadTakeAgg at*
    (repeat' split at h)<;>first
     |exact ⟨h.1,h.2,fun _ _=>rfl,fun _ h2=>by rw[hs] at h2;simp[isLoad,hop] at h2⟩
     |exact ⟨h,fun _ _=>rfl,fun _ h2=>by rw[hs] at h2;simp[isLoad,hop] at h2⟩
     |exact False.elim h
   ·rename_i hs;rw[if_neg hs];exact pml h
  |alloc e=>
   rw[hop] at h
   dsimp only[aAlloc,aAllocRaw] at*
   split at h
   ·rename_i hs;rw[if_pos hs]
    split at h
    ·exact fun p hp hp'=>⟨h p hp hp',fun _ _=>rfl,fun _ _=>put_le hp'⟩
    ·exact h
   ·rename_i hs;rw[if_neg hs]
    split at h
    ·exact fun p hp=>⟨h p hp,fun _ _=>rfl,fun _ _=>upd_le hp⟩
    ·exact h
  |box e y=>
   rw[hop] at h tk
   dsimp only at*
   split at h
   ·rename_i hs;rw[if_pos hs];exact takeA_mono (takeA_eff h) fun v A' ⟨⟨h1,h2⟩,h3⟩=>⟨h1,h2,tk y (by simp[Op.operands]) h3 fun _ _ _ _ h=>h⟩
   ·rename_i hs;rw[if_neg hs];exact takeA_mono (takeA_eff h) fun v A' ⟨⟨h1,h2⟩,h3⟩=>⟨h1,fun p hp=>⟨h2 p hp,tk y (by simp[Op.operands]) h3 fun _ _=>upd_le hp⟩⟩
  |store t y z=>
   rw[hop] at h tk
   dsimp only[aStore] at*
   split at h
   ·split at h
    ·refine takeA_mono (takeA_eff h) fun v A' ⟨⟨h1,h2,h3,h4⟩,h5⟩=>⟨h1,h2,h3, ?_⟩
     have ez:∀t,t∉temps o.op.operands.toList→A' t=A t:=fun t ht=>h5 t (temps_arg (fun z' hz'=>by simp at hz';subst hz';rw[hop];simp[Op.operands]) ht)
     have ng:∀ {τ:Store},growOp st o=true→(isLoad o=true→steals st o=false)→σ.le τ:=fun hg=>by simp[growOp,pureOp,hop] at hg
     unfold fixK at*
     split
     ·rename_i hs;rw[if_pos hs] at h4
      cases y with
      |tmp u=>
       have eu:∀(X:AV) t,t∉temps o.op.operands.toList→upd A' u X t=A t:=fun X t ht=>by
        have htu:¬t=u:=fun e=>ht (by rw[hop];simp[Op.operands,temps,e])
        rw[upd_other htu];exact ez t ht
       dsimp only at*
       (repeat' split at h4)<;>first
        |exact ⟨h4,eu _,ng⟩
        |exact h4.elim
      |_=>exact h4.elim
     ·rename_i hs;rw[if_neg hs] at h4
      exact ⟨h4,ez,ng⟩
    ·exact h
   ·exact h
  |buildSlice t len parts=>
   rw[hop] at h tk
   dsimp only at*
   split at h
   ·rename_i hs;rw[if_pos hs]
    unfold aBuildObj at*
    split at h
    ·exact ⟨h.1,h.2.1,fun p hp=>⟨h.2.2 p hp,fun _ _=>rfl,fun _ _=>upd_le hp⟩⟩
    ·rename_i e x he hparts
     split at h
     ·obtain ⟨q1,q2,q3,q4,h⟩:=h
      refine ⟨q1,q2,q3,q4,takeA_mono (takeA_eff h) fun v A' ⟨⟨r1,r2,r3⟩,r4⟩=>⟨r1,r2,fun p hp=>⟨r3 p hp,tk x (by simp only[Op.operands,hparts];simp) r4 fun _ _=>upd_le hp⟩⟩⟩
     ·exact h
    ·split at h
     ·split at h
      ·exact fun p hp=>⟨h p hp,fun _ _=>rfl,fun _ _=>upd_le hp⟩
      ·exact h
     ·exact h
    ·exact h
   ·rename_i hs;rw[if_neg hs]
    split at h
    ·exact ⟨h,triv⟩
    ·exact h
  |build t parts=>
   rw[hop] at h tk
   dsimp only at*
   split at h
   ·rename_i hs;rw[if_pos hs]
    unfold aBuildTake at*
    split at h
    ·refine fillTake_mono _ _ (fillTake_eff _ _ h) fun cs A' ⟨h1,h2⟩=>⟨h1,fun t ht=>h2 t fun hm=>ht ?_,fun _ _ _ _ h=>h⟩
     rw[hop]
     simp only[temps,List.mem_filterMap] at hm⊢
     obtain ⟨z,hz,hz'⟩:=hm
     simp only[List.mem_map] at hz
     obtain ⟨p,hp,rfl⟩:=hz
     exact ⟨p.2,by simp[Op.operands];exact ⟨p.1,by simpa using hp⟩,hz'⟩
    ·exact h
   ·rename_i hs;rw[if_neg hs];exact pm h
  |makeSlice t y z=>
   rw[hop] at h
   dsimp only[aMake] at*
   split at h
   ·split at h
    ·obtain ⟨h1,h2,h3,h4,h5,h6,h7,h8⟩:=h
     refine ⟨h1,h2,h3,h4,h5,h6,h7, ?_⟩
     split at h8
     ·rename_i hs;rw[if_pos hs];exact ⟨h8,triv⟩
     ·rename_i hs;rw[if_neg hs]
      split at h8
      ·rename_i hs2;rw[if_pos hs2];exact fun p hp=>⟨h8 p hp,fun _ _=>rfl,fun _ _=>upd_le hp⟩
      ·rename_i hs2;rw[if_neg hs2];exact fun p hp=>⟨h8 p hp,fun _ _=>rfl,fun _ _=>upd_le hp⟩
    ·exact h
   ·exact h
  |binOp op t y z t'=>
   rw[hop] at h
   dsimp only at*
   split at h
   ·rename_i hs;rw[if_pos hs]
    cases op<;>first
     |exact False.elim h
     |(dsimp only[aNilTest] at*
       split at h
       ·exact fun r hr=>⟨h r hr,triv⟩
       ·exact ⟨h,triv⟩
       ·exact ⟨h,triv⟩
       ·exact h)
   ·rename_i hs;rw[if_neg hs];exact pm h
  |convert src dst y=>
   rw[hop] at h tk
   dsimp only at*
   split at h
   ·rename_i hs;rw[if_pos hs]
    obtain ⟨q1,q2,q3⟩:=h
    refine ⟨q1,q2,takeA_mono (takeA_eff q3) fun v A' ⟨hh,h2⟩=> ?_⟩
    split at hh
    ·exact ⟨hh,tk y (by simp[Op.operands]) h2 fun _ _ _ _ h=>h⟩
    ·exact hh
   rename_i hs;rw[if_neg hs]
   split at h
   ·rename_i hs2;rw[if_pos hs2]
    unfold aConvRow at*
    split at h
    ·exact ⟨h.1,h.2.1,h.2.2,triv⟩
    ·exact ⟨h.1,h.2.1,h.2.2,triv⟩
    ·refine ⟨h.1,h.2.1, ?_⟩
     have h3:=h.2.2
     split at h3
     ·refine ⟨h3.1, ?_⟩
      have h4:=h3.2
      split at h4
      ·exact ⟨h4,triv⟩
      ·exact h4
     ·exact h3
    ·exact ⟨h.1,h.2.1,h.2.2,triv⟩
    ·exact h
   ·rename_i hs2;rw[if_neg hs2];exact pm h
  |slice t y lo hi mx=>
   rw[hop] at h tk
   dsimp only at*
   split at h
   ·rename_i hs;rw[if_pos hs]
    unfold aSliceOwn at*
    refine takeA_mono (takeA_eff h) fun v A' ⟨hh,h2⟩=> ?_
    split at hh
    ·split at hh
     ·exact ⟨hh.1,hh.2.1,hh.2.2.1,hh.2.2.2,tk y (by simp[Op.operands]) h2 fun _ _ _ _ h=>h⟩
     ·exact hh
    ·exact hh
   ·rename_i hs;rw[if_neg hs];exact pm h
  |extract y ix=>
   rw[hop] at h tk
   cases y with
   |tmp t=>
    dsimp only[aExtract] at*
    split at h
    ·split at h
     ·exact ⟨h,tk (.tmp t) (by simp[Op.operands]) (fun u hu=>upd_other (fun e=>hu (by simp[temps,e])) _) fun _ _ _ _ h=>h⟩
     ·exact h
    ·exact h
   |_=>exact pm h
  |call c=>
   rw[hop] at h tk
   dsimp only at*
   split at h
   ·rename_i s y t t' hc hargs hts
    have hs:s∈(Op.call c).operands.toList:=by simp only[Op.operands,Call.operands,Array.toList_append,List.mem_append];exact .inr (by rw[hargs];simp)
    split at h
    ·rename_i htt;rw[if_pos htt]
     split at h
     ·rename_i hso;rw[if_pos hso]
      have ng:growOp st o=false:=by simp[growOp,pureOp,hop,hc,hso]
      have tr:∀σ',E A σ':=fun σ'=>⟨fun _ _=>rfl,fun hg=>by rw[ng] at hg;cases hg⟩
      split at h
      ·rename_i hr;rw[if_pos hr]
       unfold aAppendRow at*
       (repeat' split at h)<;>first
        |exact False.elim h
        |(obtain ⟨q1,q2,q3,q4,q5,q6,q7,q8⟩:=h;exact ⟨q1,q2,q3,q4,q5,q6,q7,fun p hp=>⟨q8 p hp,tr _⟩⟩)
      ·rename_i hr;rw[if_neg hr]
       unfold aAppendObj at*
       (repeat' split at h)<;>first
        |exact False.elim h
        |(obtain ⟨q1,q2,q3,q4,q5,q6,q7,q8⟩:=h;exact ⟨q1,q2,q3,q4,q5,q6,fun h0=>⟨q7 h0,tr _⟩,fun h0 p cap h1 h2 h3=>⟨q8 h0 p cap h1 h2 h3,tr _⟩⟩)
     ·rename_i hso;rw[if_neg hso]
      unfold aAppend at*
      split at h
      ·split at h
       ·split at h
        ·exact takeA_mono (takeA_eff h) fun v A' ⟨h3,h4⟩=>by
          split at h3
          ·obtain ⟨q1,q2,q3,q4,q5,q6,q7⟩:=h3;exact ⟨q1,q2,q3,q4,q5,q6,q7,tk s hs h4 fun _ _ _ _ h=>h⟩
          ·exact h3
        ·exact h
       ·exact h
      ·exact h
    ·rename_i htt;rw[if_neg htt]
     unfold aAppendStr at*
     split at h
     ·split at h
      ·split at h
       ·exact takeA_mono (takeA_eff h) fun v A' ⟨h3,h4⟩=>by
         split at h3
         ·obtain ⟨q1,q2,q3,q4,q5,q6,q7⟩:=h3;exact ⟨q1,q2,q3,q4,q5,q6,q7,tk s hs h4 fun _ _ _ _ h=>h⟩
         ·exact h3
       ·exact h
      ·exact h
     ·exact h
   ·rename_i y z t t' hc hargs hts
    have ng:growOp st o=false:=by simp[growOp,pureOp,hop,hc]
    have tr:∀σ',E A σ':=fun σ'=>⟨fun _ _=>rfl,fun hg=>by rw[ng] at hg;cases hg⟩
    unfold aCopy at*
    split at h
    ·exact ⟨h.1,h.2.1,h.2.2,tr _⟩
    ·exact h
   ·rename_i y t hc hargs hts
    split at h
    ·rename_i hs;rw[if_pos hs]
     have ng:growOp st o=false:=by simp[growOp,pureOp,hop,hc,hs]
     exact aMapLen_mono h fun _ hh=>⟨hh,fun _ _=>rfl,fun hg=>by rw[ng] at hg;cases hg⟩
    ·rename_i hs;rw[if_neg hs];exact pm h
   ·exact pm h
  |makeMap t r=>rw[hop] at h;exact aOth_mono h fun _ _ hh=>⟨hh,fun _ _=>rfl,fun hg=>by simp[growOp,pureOp,hop] at hg⟩
  |mapUpdate t m k x=>rw[hop] at h;exact aOth_mono h fun _ _ hh=>⟨hh,fun _ _=>rfl,fun hg=>by simp[growOp,pureOp,hop] at hg⟩
  |lookup t m k ok=>rw[hop] at h;exact aOth_mono h fun _ _ hh=>⟨hh,fun _ _=>rfl,fun hg=>by simp[growOp,pureOp,hop] at hg⟩
  |range t x=>rw[hop] at h;exact aOth_mono h fun _ _ hh=>⟨hh,fun _ _=>rfl,fun hg=>by simp[growOp,pureOp,hop] at hg⟩
  |next it b=>rw[hop] at h;exact aOth_mono h fun _ _ hh=>⟨hh,fun _ _=>rfl,fun hg=>by simp[growOp,pureOp,hop] at hg⟩
  |entry it=>rw[hop] at h;exact aOth_mono h fun _ _ hh=>⟨hh,fun _ _=>rfl,fun hg=>by simp[growOp,pureOp,hop] at hg⟩
  |_=>rw[hop] at h;exact pm h
 unfold aoper at*
 cases hop:o.op with
 |call c=>
  rw[hop] at h
  dsimp only at*
  cases hc:c.callee with
  |value f=>
   rw[hc] at h
   dsimp only at*
   split at h
   ·refine takeArgs_mono _ _ (takeArgs_eff _ _ h) fun vs A' ⟨h1,h2⟩=>h1.mono fun v σ' hk=>⟨hk,fun t ht=>h2 t (temps_arg (fun z hz=> ?_) ht),fun hg=> ?_⟩
    ·simp only[Op.operands,Call.operands,Array.toList_append,List.mem_append];exact .inr hz
    ·simp[growOp,pureOp,hop,hc] at hg
   ·exact h
  |_=>rw[hc] at h;have:=as h;dsimp only[E] at this;rw[hop] at this;exact this
 |_=>rw[hop] at h;have:=as h;dsimp only[E] at this;rw[hop] at this;exact this
def evalE (P:Program) (st:List Tmp) (ops:Array Oper) (e:Oper) (A:Slots) (σ:Store):Option AV:=
 match e.guard with
 |none=>apure P e A (pst st e σ)
 |some (j,want)=>match yieldedA ops A j with
  |some b=>if b=some want then apure P e A (pst st e σ) else some (.lit undef)
  |none=>none
theorem estep_pure {P:Program} {st:List Tmp} {ops:Array Oper} {i:Nat} {e:Oper} (he:ops[i]?=some e) (hp:pureOp st e=true) {K:Slots→Store→Prop} {A:Slots} {σ:Store} :
  estep P st ops i K A σ↔∃v,evalE P st ops e A σ=some v∧K (aput A e.dst v) σ:=by
 unfold estep evalE
 rw[he]
 dsimp only
 cases hg:e.guard with
 |none=>exact pureOp_iff hp
 |some jw=>
  obtain ⟨j,want⟩:=jw
  dsimp only
  cases hy:yieldedA ops A j with
  |none=>simp
  |some b=>
   dsimp only
   by_cases hb:b=some want
   ·rw[if_pos hb,if_pos hb];exact pureOp_iff hp
   ·rw[if_neg hb,if_neg hb];simp
theorem looks_op {ops:Array Oper} {o:Oper} {t:Tmp} (h:t∈temps o.op.operands.toList):t∈o.looksAt ops:=by
 unfold Oper.looksAt
 exact List.mem_append_left _ h
theorem looks_guard {ops:Array Oper} {o:Oper} {j:Nat} {want:Bool} (hg:o.guard=some (j,want)) {d:Tmp} (hd:(ops[j]?).bind (·.dst)=some d):d∈o.looksAt ops:=by
 unfold Oper.looksAt
 simp[hg,hd]
theorem yieldedA_congr {ops:Array Oper} {o:Oper} {A B:Slots} (h:∀t∈o.looksAt ops,A t=B t) {j:Nat} {want:Bool} (hg:o.guard=some (j,want)):yieldedA ops A j=yieldedA ops B j:=by
 unfold yieldedA
 cases hd:(ops[j]?).bind (·.dst) with
 |none=>rfl
 |some d=>dsimp only;rw[h d (looks_guard hg hd)]
theorem evalE_congr {P:Program} {st:List Tmp} {ops:Array Oper} {e:Oper} {A B:Slots} {σ σ':Store} (h:∀t∈e.looksAt ops,A t=B t) (hs:isLoadS st e=true→σ.le σ') {v:AV} (hv:evalE P st ops e A σ=some v):evalE P st ops e B σ'=some v:=by
 have ap:∀ {v},apure P e A (pst st e σ)=some v→apure P e B (pst st e σ')=some v:=fun {v} hv=>by
  rw[apure_congr (B:=B) fun t ht=>h t (looks_op ht)] at hv
  cases hl:isLoad e with
  |true=>
   cases hf:fixed st e with
   |true=>unfold pst at*;rw[if_pos hf] at*;exact hv
   |false=>
    unfold pst at*
    rw[if_neg (by simp[hf])] at*
    exact apure_grow (hs (by simp[isLoadS,hl,hf])) hv
  |false=>rw[pst_load hl] at*;rwa[←apure_store (σ:=σ) hl]
 unfold evalE at*
 cases hg:e.guard with
 |none=>rw[hg] at hv;exact ap hv
 |some jw=>
  obtain ⟨j,want⟩:=jw
  rw[hg] at hv
  dsimp only at*
  rw[yieldedA_congr h hg] at hv
  cases hy:yieldedA ops B j with
  |none=>rw[hy] at hv;simp at hv
  |some b=>
   rw[hy] at hv
   dsimp only at*
   by_cases hb:b=some want
   ·rw[if_pos hb] at*;exact ap hv
   ·rw[if_neg hb] at*;exact hv
theorem aput_upd {A:Slots} {dst:Option Tmp} {d:Tmp} (h:dst≠some d) (v x:AV):aput (upd A d x) dst v=upd (aput A dst v) d x:=by
 cases dst with
 |none=>rfl
 |some e=>exact upd_comm A (fun heq=>h (by rw[heq])) x v
def indep (st:List Tmp) (ops:Array Oper) (e i:Oper):Bool:=
 Oper.apart ops e i&&pureOp st e&&(pureOp st i||(e.looksAt ops).all fun t=> !(temps i.op.operands.toList).contains t)&&(!isLoadS st e||(growOp st i&&(!isLoad i|| !steals st i)))
theorem estep_swap {P:Program} {st:List Tmp} {ops:Array Oper} {k i:Nat} {e o:Oper} (he:ops[k]?=some e) (ho:ops[i]?=some o) (hi:indep st ops e o=true) {K:Slots→Store→Prop} {A:Slots} {σ:Store}
  (h:estep P st ops k (estep P st ops i K) A σ):estep P st ops i (estep P st ops k K) A σ:=by
 unfold indep at hi
 simp only[Bool.and_eq_true] at hi
 obtain ⟨⟨⟨hap,hpe⟩,hdis⟩,hld⟩:=hi
 obtain ⟨a1,a2,a3⟩:=Oper.apart_spec hap
 obtain ⟨v,hv,h⟩:=(estep_pure he hpe).1 h
 have back:∀ {A':Slots} {σ':Store},(∀t∈e.looksAt ops,A' t=A t)→(isLoadS st e=true→σ.le σ')→K (aput A' e.dst v) σ'→estep P st ops k K A' σ':=fun h1 h2 h3=>
  (estep_pure he hpe).2 ⟨v,evalE_congr (fun t ht=>(h1 t ht).symm) h2 hv,h3⟩
 have frame:∀ {K':AV→Slots→Store→Prop},aoper P st o (aput A e.dst v) σ K'→aoper P st o A σ fun x A' σ'=>K' x (aput A' e.dst v) σ':=by
  intro K' hk
  cases hd:e.dst with
  |none=>rw[hd] at hk;exact hk
  |some d=>rw[hd] at hk;exact aoper_frame (fun hm=>a1 d hd (looks_op hm)) hk
 have eff:∀ {K':AV→Slots→Store→Prop},aoper P st o A σ K'→aoper P st o A σ fun x A' σ'=>K' x A' σ'∧(∀t∈e.looksAt ops,A' t=A t)∧(isLoadS st e=true→σ.le σ'):=by
  intro K' hk
  by_cases hpo:pureOp st o=true
  ·obtain ⟨x,hx,hk⟩:=(pureOp_iff hpo).1 hk
   exact (pureOp_iff hpo).2 ⟨x,hx,hk,fun _ _=>rfl,fun _ _ _ h=>h⟩
  ·refine aoper_mono (aoper_eff hk) fun x A' σ' ⟨h1,h2,h3⟩=>⟨h1,fun t ht=>h2 t fun hm=> ?_,fun hl=> ?_⟩
   ·have:=hdis
    simp only[hpo,Bool.false_or,List.all_eq_true] at this
    have:=this t ht
    simp at this;exact this hm
   ·simp only[hl,Bool.not_true,Bool.false_or,Bool.and_eq_true] at hld
    refine h3 hld.1 fun hlo=> ?_
    have:=hld.2
    simpa[hlo] using this
 have fin:∀ {x:AV} {A':Slots} {σ':Store},K (aput (aput A' e.dst v) o.dst x) σ'→(∀t∈e.looksAt ops,A' t=A t)→(isLoadS st e=true→σ.le σ')→estep P st ops k K (aput A' o.dst x) σ':=by
  intro x A' σ' hk h1 h2
  refine back (fun t ht=> ?_) h2 ?_
  ·cases hd:o.dst with
   |none=>exact h1 t ht
   |some d=>
    have hne:t≠d:=fun e=>by subst e;exact a3 t hd ht
    simp only[aput];rw[upd_other hne];exact h1 t ht
  ·cases hd:e.dst with
   |none=>rw[hd] at hk;exact hk
   |some d=>
    rw[hd] at hk
    simp only[aput] at hk⊢
    have:=aput_upd (A:=A') (dst:=o.dst) (fun h=>a2 d hd h) x v
    simp only[aput] at this
    rw[←this];exact hk
 unfold estep at h⊢
 rw[ho] at h⊢
 dsimp only at*
 have hyg:∀ {j:Nat} {want:Bool},o.guard=some (j,want)→yieldedA ops (aput A e.dst v) j=yieldedA ops A j:=fun hg=>yieldedA_congr (fun t ht=>by
  cases hd:e.dst with
  |none=>rfl
  |some d=>exact upd_other (fun h=>by subst h;exact a1 t hd ht) v) hg
 cases hg:o.guard with
 |none=>
  rw[hg] at h
  exact aoper_mono (eff (frame h)) fun x A' σ' ⟨h1,h2,h3⟩=>fin h1 h2 h3
 |some jw=>
  obtain ⟨j,want⟩:=jw
  rw[hg] at h
  dsimp only at*
  rw[hyg hg] at h
  cases hy:yieldedA ops A j with
  |none=>rw[hy] at h;exact h
  |some b=>
   rw[hy] at h
   dsimp only at*
   by_cases hb:b=some want
   ·rw[if_pos hb] at*;exact aoper_mono (eff (frame h)) fun x A' σ' ⟨h1,h2,h3⟩=>fin h1 h2 h3
   ·rw[if_neg hb] at*
    exact fin h (fun _ _=>rfl) fun _ _ _ h=>h
end Go.AL
namespace Go.AL
open Go Go.RowKit Classical
variable [GL]
set_option linter.unusedSectionVars false
def aAny (P:Program) (st:List Tmp) (ops:Array Oper) (Q:Slots→Store→Prop):Nat→Array Bool→Slots→Store→Prop
 |0,listed,A,σ=>Region.ready .any ops listed=[]∧Q A σ
 |fuel+1,listed,A,σ=>(Region.ready .any ops listed=[]→Q A σ)∧∀i∈Region.ready .any ops listed,estep P st ops i (aAny P st ops Q fuel (listed.setIfInBounds i true)) A σ
theorem aAny_sound {P:Program} {st:List Tmp} {D:Nat→Prop} {n:Nat} {ops:Array Oper} (hn:∀o∈ops.toList,dstOk n o=true) {Q:Slots→Store→Prop} {Q':Exit→Act→World→Prop} :
  ∀(fuel:Nat) (listed:Array Bool) {G0 G:Ghost} {w0:World} {A:Slots} {σ:Store} {a:Act} {w:World},(∀a' w',lift D n G0 w0 Q a' w'→Q' .normal a' w')→Ext D G0 w0 G w→Rel D n G A σ a w→aAny P st ops Q fuel listed A σ→wpAny P .any ops Q' fuel listed a w
 |0,listed,G0,G,w0,A,σ,a,w,hq,hext,hR,h=>⟨h.1,hq a w ⟨G,A,σ,h.2,hR,hext⟩⟩
 |fuel+1,listed,G0,G,w0,A,σ,a,w,hq,hext,hR,h=>by
  refine ⟨fun hr=>hq a w ⟨G,A,σ,h.1 hr,hR,hext⟩,fun i hi=> ?_⟩
  refine wpOp_mono (fun a' w' hl=> ?_) (estep_sound hR hn (h.2 i hi) Q')
  obtain ⟨G',A',σ',h1,h2,h3⟩:=hl
  exact aAny_sound hn fuel _ hq (hext.trans h3) h2 h1
theorem mem_ready {ops:Array Oper} {listed:Array Bool} {i:Nat} :i∈Region.ready .any ops listed↔∃o,ops[i]?=some o∧listed.getD i true=false∧∀ed∈o.after.toList,Region.binds .any ed=true→listed.getD ed.on false=true:=by
 unfold Region.ready
 simp only[List.mem_filter,List.mem_range,Bool.and_eq_true,Bool.not_eq_true']
 constructor
 ·rintro ⟨h1,h2,h3⟩
  have ho:ops[i]?=some (ops[i]'h1):=by simp
  refine ⟨_,ho,h2,fun ed hed hb=> ?_⟩
  rw[ho] at h3
  simp only[Option.map_some,Option.getD_some,Array.all_eq_true_iff_forall_mem] at h3
  have:=h3 ed (by simpa using hed)
  simpa[hb] using this
 ·rintro ⟨o,ho,h2,h3⟩
  refine ⟨(Array.getElem?_eq_some_iff.1 ho).1,h2, ?_⟩
  rw[ho]
  simp only[Option.map_some,Option.getD_some,Array.all_eq_true_iff_forall_mem]
  intro ed hed
  cases hb:Region.binds .any ed with
  |false=>simp
  |true=>simp[h3 ed (by simpa using hed) hb]
theorem getD_setB (l:Array Bool) (i j:Nat) (b d:Bool):(l.setIfInBounds i b).getD j d=if i=j∧j<l.size then b else l.getD j d:=by
 simp only[Array.getD_eq_getD_getElem?,Array.getElem?_setIfInBounds]
 by_cases h:i=j
 ·subst h
  by_cases hi:i<l.size
  ·simp[hi]
  ·simp[hi]
 ·simp[h]
def ample (st:List Tmp) (ops:Array Oper) (listed:Array Bool) (k:Nat) (L:List Nat):Bool:=
 match ops[k]? with
 |none=>false
 |some e=>((k::L).all fun i=>listed.getD i true==false)&&
  (L.all fun i=>match ops[i]? with|some o=>o.after.toList.any fun ed=>Region.binds .any ed&&(k::L).contains ed.on|none=>false)&&
  ((List.range ops.size).all fun i=>(k::L).contains i||listed.getD i true||match ops[i]? with|some o=>indep st ops e o|none=>true)&&pureOp st e
theorem postpone {P:Program} {st:List Tmp} {ops:Array Oper} {Q:Slots→Store→Prop} {k:Nat} {e:Oper} (he:ops[k]?=some e) (hp:pureOp st e=true) {L:List Nat}
  (hL:∀i∈L,∃o,ops[i]?=some o∧∃ed∈o.after.toList,Region.binds .any ed=true∧ed.on∈k::L):∀(fuel:Nat) (listed:Array Bool) (A:Slots) (σ:Store),
  (∀i∈k::L,listed.getD i true=false)→k∈Region.ready .any ops listed→(∀i o,i∉k::L→listed.getD i true=false→ops[i]?=some o→indep st ops e o=true)→
  estep P st ops k (aAny P st ops Q fuel (listed.setIfInBounds k true)) A σ→aAny P st ops Q (fuel+1) listed A σ:=by
 intro fuel
 induction fuel with
 |zero=>
  intro listed A σ hun hk hin h
  refine ⟨fun hr=>(by rw[hr] at hk;cases hk),fun i hi=> ?_⟩
  by_cases hik:i=k
  ·subst hik;exact h
  ·obtain ⟨v,_,h2⟩:=(estep_pure he hp).1 h
   obtain ⟨o,ho,h3,h4⟩:=mem_ready.1 hi
   have:i∈Region.ready .any ops (listed.setIfInBounds k true):=mem_ready.2 ⟨o,ho,by rw[getD_setB,if_neg (fun hh=>hik hh.1.symm)];exact h3,fun ed hed hb=>by
    rw[getD_setB];split
    ·rfl
    ·exact h4 ed hed hb⟩
   rw[h2.1] at this;cases this
 |succ f ih=>
  intro listed A σ hun hk hin h
  refine ⟨fun hr=>(by rw[hr] at hk;cases hk),fun i hi=> ?_⟩
  by_cases hik:i=k
  ·subst hik;exact h
  ·obtain ⟨o,ho,h3,h4⟩:=mem_ready.1 hi
   have hiL:i∉k::L:=by
    intro hm
    rcases List.mem_cons.1 hm with hm|hm
    ·exact hik hm
    ·obtain ⟨o',ho',ed,hed,hb,hon⟩:=hL i hm
     rw[ho] at ho';simp only[Option.some.injEq] at ho';subst ho'
     have q1:=h4 ed hed hb
     have q2:=hun _ hon
     simp only[Array.getD_eq_getD_getElem?] at q1 q2
     cases hx:listed[ed.on]? with
     |none=>rw[hx] at q2;simp at q2
     |some b=>rw[hx] at q1 q2;simp at q1 q2;simp[q1] at q2
   have hdep:=hin i o hiL h3 ho
   have hi':i∈Region.ready .any ops (listed.setIfInBounds k true):=mem_ready.2 ⟨o,ho,by rw[getD_setB,if_neg (fun hh=>hik hh.1.symm)];exact h3,fun ed hed hb=>by
    rw[getD_setB];split
    ·rfl
    ·exact h4 ed hed hb⟩
   have h5:=estep_swap he ho hdep (estep_mono h fun A' σ' hh=>hh.2 i hi')
   refine estep_mono h5 fun A' σ' hh=> ?_
   have hcomm:(listed.setIfInBounds k true).setIfInBounds i true=(listed.setIfInBounds i true).setIfInBounds k true:=by
    apply Array.ext
    ·simp
    ·intro j h1 h2
     rw[Array.getElem_setIfInBounds,Array.getElem_setIfInBounds,Array.getElem_setIfInBounds,Array.getElem_setIfInBounds]
     ·split<;>split<;>rfl
     all_goals (simp at h1⊢;exact h1)
   rw[hcomm] at hh
   obtain ⟨ok,hok,hk3,hk4⟩:=mem_ready.1 hk
   refine ih (listed.setIfInBounds i true) A' σ' (fun j hj=> ?_) (mem_ready.2 ⟨ok,hok, ?_,fun ed hed hb=> ?_⟩) (fun j o' hj hl ho'=>hin j o' hj ?_ ho') hh
   ·rw[getD_setB,if_neg (by rintro ⟨rfl,_⟩;exact hiL hj)];exact hun j hj
   ·rw[getD_setB,if_neg (fun hh=>hik hh.1)];exact hk3
   ·rw[getD_setB];split
    ·rfl
    ·exact hk4 ed hed hb
   ·rw[getD_setB] at hl;split at hl
    ·cases hl
    ·exact hl
inductive Plan where
 |done
 |step (i:Nat) (p:Plan)
 |alt (p q:Plan)
def Plan.seq:List Nat→Plan→Plan
 |[],p=>p
 |i::l,p=> .step i (Plan.seq l p)
def Plan.heads:Plan→List (Nat×Plan)
 | .done=>[]
 | .step i p=>[(i,p)]
 | .alt p q=>p.heads++q.heads
def aplan (P:Program) (st:List Tmp) (ops:Array Oper) (Q:Slots→Store→Prop):Plan→Slots→Store→Prop
 | .done,A,σ=>Q A σ
 | .step i p,A,σ=>estep P st ops i (aplan P st ops Q p) A σ
 | .alt p q,A,σ=>aplan P st ops Q p A σ∧aplan P st ops Q q A σ
def behind (ops:Array Oper) (k:Nat):List Nat:=
 (List.range ops.size).foldl (fun L i=>match ops[i]? with|some o=>if o.after.toList.any fun ed=>Region.binds .any ed&&(k::L).contains ed.on then i::L else L|none=>L) []
def planOk (st:List Tmp) (ops:Array Oper):Nat→Array Bool→Plan→Bool
 |0,listed,p=>p.heads.isEmpty&&(Region.ready .any ops listed).isEmpty
 |fuel+1,listed,p=>
  match p.heads with
  |[]=>(Region.ready .any ops listed).isEmpty
  |[(k,q)]=>(Region.ready .any ops listed).contains k&&((Region.ready .any ops listed).all (·==k)||ample st ops listed k (behind ops k))&&planOk st ops fuel (listed.setIfInBounds k true) q
  |hs=>((Region.ready .any ops listed).all fun i=>hs.any (·.1==i))&&hs.all fun x=>(Region.ready .any ops listed).contains x.1&&planOk st ops fuel (listed.setIfInBounds x.1 true) x.2
theorem aplan_heads {P:Program} {st:List Tmp} {ops:Array Oper} {Q:Slots→Store→Prop} {A:Slots} {σ:Store} :∀ {p:Plan},aplan P st ops Q p A σ→(p.heads=[]→Q A σ)∧∀x∈p.heads,estep P st ops x.1 (aplan P st ops Q x.2) A σ
 | .done,h=>⟨fun _=>h,by simp[Plan.heads]⟩
 | .step i p,h=>⟨by simp[Plan.heads],fun x hx=>by simp[Plan.heads] at hx;subst hx;exact h⟩
 | .alt p q,h=>by
  have h1:=aplan_heads h.1
  have h2:=aplan_heads h.2
  refine ⟨fun he=>h1.1 (List.append_eq_nil_iff.1 he).1,fun x hx=> ?_⟩
  rcases List.mem_append.1 hx with hx|hx
  ·exact h1.2 x hx
  ·exact h2.2 x hx
theorem planOk_sound {P:Program} {st:List Tmp} {ops:Array Oper} {Q:Slots→Store→Prop} :∀(fuel:Nat) (listed:Array Bool) (p:Plan) (A:Slots) (σ:Store),planOk st ops fuel listed p=true→aplan P st ops Q p A σ→aAny P st ops Q fuel listed A σ:=by
 intro fuel
 induction fuel with
 |zero=>
  intro listed p A σ hok h
  simp only[planOk,Bool.and_eq_true,List.isEmpty_iff] at hok
  exact ⟨hok.2,(aplan_heads h).1 hok.1⟩
 |succ fuel ih=>
  intro listed p A σ hok h
  obtain ⟨h1,h2⟩:=aplan_heads h
  unfold planOk at hok
  split at hok
  ·rename_i heq
   simp only[List.isEmpty_iff] at hok
   exact ⟨fun _=>h1 heq,fun i hi=>by rw[hok] at hi;cases hi⟩
  ·rename_i k q heq
   simp only[Bool.and_eq_true,Bool.or_eq_true] at hok
   obtain ⟨⟨c1,c2⟩,c3⟩:=hok
   have hk:k∈Region.ready .any ops listed:=by simpa using c1
   have hs:=h2 (k,q) (by rw[heq];simp)
   have hs':=estep_mono hs fun A' σ' hh=>ih _ q A' σ' c3 hh
   rcases c2 with c2|c2
   ·refine ⟨fun hr=>(by rw[hr] at hk;cases hk),fun i hi=> ?_⟩
    have:=List.all_eq_true.1 c2 i hi
    simp at this;subst this;exact hs'
   ·unfold ample at c2
    cases he:ops[k]? with
    |none=>rw[he] at c2;cases c2
    |some e=>
     rw[he] at c2
     simp only[Bool.and_eq_true,List.all_eq_true] at c2
     obtain ⟨⟨⟨d1,d2⟩,d3⟩,d4⟩:=c2
     refine postpone he d4 (L:=behind ops k) (fun i hi=> ?_) fuel listed A σ (fun i hi=>by have:=d1 i hi;simpa using this) hk (fun i o hi hl ho=> ?_) hs'
     ·have:=d2 i hi
      cases ho:ops[i]? with
      |none=>rw[ho] at this;cases this
      |some o=>
       rw[ho] at this
       simp only[List.any_eq_true,Bool.and_eq_true] at this
       obtain ⟨ed,hed,hb,hon⟩:=this
       exact ⟨o,rfl,ed,hed,hb,by simpa using hon⟩
     ·have:=d3 i (by simp;exact (Array.getElem?_eq_some_iff.1 ho).1)
      rw[ho] at this
      simp only[Bool.or_eq_true] at this
      rcases this with (this|this)|this
      ·exact absurd (by simpa using this) hi
      ·rw[hl] at this;cases this
      ·exact this
  ·rename_i hne _
   simp only[Bool.and_eq_true,List.all_eq_true,List.any_eq_true] at hok
   obtain ⟨c1,c2⟩:=hok
   refine ⟨fun hr=> ?_,fun i hi=> ?_⟩
   ·refine h1 ?_
    cases hp:p.heads with
    |nil=>rfl
    |cons x xs=>
     have:=(c2 x (by rw[hp];simp)).1
     rw[hr] at this;simp at this
   ·obtain ⟨x,hx,hxi⟩:=c1 i hi
    simp at hxi;subst hxi
    exact estep_mono (h2 x hx) fun A' σ' hh=>ih _ x.2 A' σ' (c2 x hx).2 hh
def aopsAt (P:Program) (st:List Tmp) (ops:Array Oper) (Q:Slots→Store→Prop):List Oper→Nat→Slots→Store→Prop
 |[],_=>Q
 |_::rest,i=>estep P st ops i (aopsAt P st ops Q rest (i+1))
theorem aopsAt_eq {P:Program} {st:List Tmp} {ops:Array Oper} {Q:Slots→Store→Prop} :∀(l:List Oper) (i:Nat),aopsAt P st ops Q l i=aops P st ops Q (List.range' i l.length)
 |[],_=>rfl
 |_::rest,i=>by simp only[aopsAt,List.length_cons,List.range'_succ,aops];rw[aopsAt_eq rest]
def AWp (P:Program) (n:Nat) (c:Code) (Q:Exit→Slots→Store→Prop) (A:Slots) (σ:Store):Prop:=
 ∀(D:Nat→Prop) (G:Ghost) (a:Act) (w:World),Rel D n G A σ a w→c.wp P (fun e a' w'=>lift D n G w (Q e) a' w') a w
def athen (next:Slots→Store→Prop) (Q:Exit→Slots→Store→Prop):Exit→Slots→Store→Prop
 | .normal=>next
 |e=>Q e
def ainBlock (id:Nat) (Q:Exit→Slots→Store→Prop):Exit→Slots→Store→Prop
 | .exit id'=>if id'=id then Q .normal else Q (.exit id')
 |e=>Q e
def awp (P:Program) (st:List Tmp) (plans:List (Nat×Plan)) (n:Nat):Code→(Exit→Slots→Store→Prop)→Slots→Store→Prop
 | .skip,Q=>Q .normal
 | .label _,Q=>Q .normal
 | .seq x y,Q=>awp P st plans n x (athen (awp P st plans n y Q) Q)
 | .cond c x y,Q=>fun A σ=>match evalA A c with
  | .lit (.bool b)=>if b=true then awp P st plans n x Q A σ else awp P st plans n y Q A σ
  |_=>False
 | .block id c,Q=>awp P st plans n c (ainBlock id Q)
 | .exit id,Q=>Q (.exit id)
 | .goto l,Q=>Q (.goto l)
 | .ret,Q=>Q .ret
 | .region id ops draw,Q=>fun A σ=>if draw=true then (match plans.lookup id with|some p=>aplan P st ops (Q .normal) p A σ|none=>False) else aopsAt P st ops (Q .normal) ops.toList 0 A σ
 |c,Q=>AWp P n c Q
def codeOk (st:List Tmp) (plans:List (Nat×Plan)) (n:Nat):Code→Bool
 | .seq x y=>codeOk st plans n x&&codeOk st plans n y
 | .cond _ x y=>codeOk st plans n x&&codeOk st plans n y
 | .block _ c=>codeOk st plans n c
 | .loop c=>codeOk st plans n c
 | .region id ops draw=>ops.toList.all (dstOk n)&&(!draw||match plans.lookup id with|some p=>planOk st ops ops.size (Array.replicate ops.size false) p|none=>false)
 |_=>true
theorem lift_mono {D:Nat→Prop} {n:Nat} {G:Ghost} {w:World} {Q Q':Slots→Store→Prop} {a':Act} {w':World} (h:lift D n G w Q a' w') (hq:∀A σ,Q A σ→Q' A σ):lift D n G w Q' a' w':=by
 obtain ⟨G',A',σ',h1,h2⟩:=h
 exact ⟨G',A',σ',hq _ _ h1,h2⟩
theorem lift_here {D:Nat→Prop} {n:Nat} {G:Ghost} {A:Slots} {σ:Store} {a:Act} {w:World} {Q:Slots→Store→Prop} (h:Rel D n G A σ a w) (hq:Q A σ):lift D n G w Q a w:=⟨G,A,σ,hq,h,Ext.refl ..⟩
theorem AWp.mono {P:Program} {n:Nat} {c:Code} {Q Q':Exit→Slots→Store→Prop} {A:Slots} {σ:Store} (h:AWp P n c Q A σ) (hq:∀e A σ,Q e A σ→Q' e A σ):AWp P n c Q' A σ:=
 fun D G a w hR=>wp_mono (h D G a w hR) fun e _ _ hl=>lift_mono hl (hq e)
theorem AWp.seq {P:Program} {n:Nat} {x y:Code} {Q:Exit→Slots→Store→Prop} {A:Slots} {σ:Store} (h:AWp P n x (athen (AWp P n y Q) Q) A σ):AWp P n (.seq x y) Q A σ:=by
 intro D G a w hR
 refine wp_seq (wp_mono (h D G a w hR) fun e a' w' hl=> ?_)
 obtain ⟨G',A',σ',h1,h2,h3⟩:=hl
 cases e with
 |normal=>exact wp_mono (h1 D G' a' w' h2) fun e a'' w'' hl=>lift_trans h3 hl
 |_=>exact ⟨G',A',σ',h1,h2,h3⟩
theorem AWp.block {P:Program} {n id:Nat} {c:Code} {Q:Exit→Slots→Store→Prop} {A:Slots} {σ:Store} (h:AWp P n c (ainBlock id Q) A σ):AWp P n (.block id c) Q A σ:=by
 intro D G a w hR
 refine wp_block (wp_mono (h D G a w hR) fun e a' w' hl=> ?_)
 cases e with
 |exit id'=>
  simp only[Exit.inBlock,ainBlock] at*
  split at hl
  ·rename_i hh;rw[if_pos hh];exact hl
  ·rename_i hh;rw[if_neg hh];exact hl
 |_=>exact hl
theorem AWp.cond {P:Program} {n:Nat} {c:Operand} {x y:Code} {Q:Exit→Slots→Store→Prop} {A:Slots} {σ:Store} {b:Bool} (hc:evalA A c= .lit (.bool b)) (h:AWp P n (if b then x else y) Q A σ):AWp P n (.cond c x y) Q A σ:=by
 intro D G a w hR
 have hv:=hR.eval c
 rw[hc] at hv
 generalize hcv:a.eval c=cv at hv
 cases hv
 exact wp_cond hcv (h D G a w hR)
theorem awp_sound {P:Program} (hm:P.follows .mixedOrders=true) {st:List Tmp} {plans:List (Nat×Plan)} {n:Nat} :∀(c:Code) {Q:Exit→Slots→Store→Prop} {A:Slots} {σ:Store},codeOk st plans n c=true→awp P st plans n c Q A σ→AWp P n c Q A σ:=by
 intro c
 induction c with
 |skip=>intro Q A σ _ h D G a w hR;exact wp_skip (lift_here hR h)
 |label l=>intro Q A σ _ h D G a w hR;exact wp_label (lift_here hR h)
 |exit id=>intro Q A σ _ h D G a w hR;exact wp_exit (lift_here hR h)
 |goto l=>intro Q A σ _ h D G a w hR;exact wp_goto (lift_here hR h)
 |ret=>intro Q A σ _ h D G a w hR;exact wp_ret (lift_here hR h)
 |seq x y ihx ihy=>
  intro Q A σ hok h
  simp only[codeOk,Bool.and_eq_true] at hok
  refine AWp.seq ((ihx hok.1 h).mono fun e A σ hh=> ?_)
  cases e with
  |normal=>exact ihy hok.2 hh
  |_=>exact hh
 |cond c x y ihx ihy=>
  intro Q A σ hok h
  simp only[codeOk,Bool.and_eq_true] at hok
  simp only[awp] at h
  split at h
  ·rename_i b hb
   refine AWp.cond hb ?_
   cases b
   ·exact ihy hok.2 h
   ·exact ihx hok.1 h
  ·exact h.elim
 |block id c ih=>intro Q A σ hok h;exact AWp.block (ih hok h)
 |region id ops draw=>
  intro Q A σ hok h D G a w hR
  simp only[codeOk,Bool.and_eq_true,Bool.or_eq_true,List.all_eq_true] at hok
  simp only[awp] at h
  cases draw with
  |false=>
   simp only[Bool.false_eq_true,if_false] at h
   rw[aopsAt_eq,Array.length_toList,←List.range_eq_range'] at h
   exact wp_region (aops_sound hok.1 _ (fun a' w' hl=>hl) (Ext.refl ..) hR h)
  |true=>
   simp only[if_true] at h
   cases hp:plans.lookup id with
   |none=>rw[hp] at h;exact h.elim
   |some p=>
    rw[hp] at h
    have hok2:=hok.2
    simp only[hp,Bool.not_true,Bool.false_eq_true,false_or] at hok2
    exact wp_region_any hm (aAny_sound hok.1 _ _ (fun a' w' hl=>hl) (Ext.drew (w:=w)) hR.drew (planOk_sound _ _ p _ _ hok2 h))
 |_=>intro Q A σ _ h;exact h
end Go.AL
namespace Go.AL
open Go Go.RowKit Classical
variable [GL]
set_option linter.unusedSectionVars false
def AV.le (a b:AV):Prop:=∀(F:Frz) (v:Value),VR F a v→VR F b v∧∀(G:Ghost) (D:Nat→Prop) (r:Nat→Place),OwnAt G D r a v→OwnAt G D r b v
theorem AV.le_refl (a:AV):a.le a:=fun _ _ h=>⟨h,fun _ _ _ h=>h⟩
theorem AV.le_trans {a b c:AV} (h:a.le b) (k:b.le c):a.le c:=fun F v hv=>⟨(k F v (h F v hv).1).1,fun G D r ho=>(k F v (h F v hv).1).2 G D r ((h F v hv).2 G D r ho)⟩
theorem AV.le_top (a:AV):a.le .top:=fun _ v _=>⟨.top v,fun _ _ _ _=>OwnAt.of_plain rfl⟩
theorem AV.le_share (a:AV):a.le a.share:=fun _ _ h=>⟨h.share,fun _ _ _ _=>OwnAt.share ..⟩
theorem AV.le_list (o:Bool) (sz:Nat) (vs:List AV):(AV.list o sz vs).le (.list false sz vs):=AV.le_share (.list o sz vs)
def AV.le1 (a b:AV):Prop:=∀(F:Frz) (v:Value),VR F a v→VR F b v∧∀(G:Ghost) (D:Nat→Prop) (π:Place),Own1 G D π a v→Own1 G D π b v
theorem AV.le1_refl (a:AV):a.le1 a:=fun _ _ h=>⟨h,fun _ _ _ h=>h⟩
theorem AV.le1_top (a:AV):a.le1 .top:=fun _ v _=>⟨.top v,fun _ _ _ _=>Own1.of_plain rfl⟩
theorem AV.le1_drop (a:AV):a.le1 a.drop1:=fun _ _ h=>⟨h.drop1,fun _ _ _ _=>Own1.drop1 ..⟩
theorem AV.le1_list (o:Bool) (sz:Nat) (vs:List AV):(AV.list o sz vs).le1 (.list false sz vs):=AV.le1_drop (.list o sz vs)
theorem AV.le1_nil (o:Bool) (sz:Nat):(AV.lit (.slice none 0 0)).le1 (.list o sz []):=fun F v h=>by
 cases h
 exact ⟨.nil o sz,fun _ _ _ _=>by cases o<;>simp[Own1]⟩
def AllLe1:List AV→List AV→Prop
 |[],[]=>True
 |a::as,b::bs=>a.le1 b∧AllLe1 as bs
 |_,_=>False
theorem AllLe1.get:∀ {as bs:List AV},AllLe1 as bs→as.length=bs.length∧∀(i:Nat) (b:AV),bs[i]?=some b→∃a,as[i]?=some a∧a.le1 b
 |[],[],_=>⟨rfl,by simp⟩
 |[],_::_,h=>h.elim
 |_::_,[],h=>h.elim
 |a::as,b::bs,h=>by
  obtain ⟨h1,h2⟩:=AllLe1.get h.2
  refine ⟨by simp[h1],fun i x hx=> ?_⟩
  cases i with
  |zero=>simp at hx;subst hx;exact ⟨a,rfl,h.1⟩
  |succ i=>simp at hx;simpa using h2 i x hx
theorem AV.le_agg {as bs:List AV} (h:AllLe1 as bs):(AV.agg as).le (.agg bs):=fun F v hv=>by
 obtain ⟨hl,hg⟩:=h.get
 cases hv with|agg _ us l1 l2 l3=> ?_
 refine ⟨.agg bs us (by omega) l2 fun i c u hc hu=> ?_,fun G D r ho j c u hc hu=> ?_⟩
 ·obtain ⟨a,ha,hle⟩:=hg i c hc;exact (hle F u (l3 i a u ha hu)).1
 ·obtain ⟨a,ha,hle⟩:=hg j c hc;exact (hle F u (l3 j a u ha hu)).2 G D _ (ho j a u ha hu)
theorem AV.le_tuple {as bs:List AV} (h:AllLe1 as bs):(AV.tuple as).le (.tuple bs):=fun F v hv=>by
 obtain ⟨hl,hg⟩:=h.get
 cases hv with|tuple _ us l1 l3=> ?_
 refine ⟨.tuple bs us (by omega) fun i c u hc hu=> ?_,fun G D r ho j c u hc hu=> ?_⟩
 ·obtain ⟨a,ha,hle⟩:=hg i c hc;exact (hle F u (l3 i a u ha hu)).1
 ·obtain ⟨a,ha,hle⟩:=hg j c hc;exact (hle F u (l3 j a u ha hu)).2 G D _ (ho j a u ha hu)
def Slots.le (A B:Slots):Prop:=∀i,(A i).le (B i)
def noSlots:Slots:=fun _=> .top
theorem Slots.le_none (A:Slots):Slots.le A noSlots:=fun _=>AV.le_top _
theorem Slots.le_upd {A B:Slots} {i:Nat} {v:AV} (h:(A i).le v) (k:Slots.le A B):Slots.le A (upd B i v):=fun j=>by
 simp only[upd];split
 ·rename_i hj;subst hj;exact h
 ·exact k j
theorem Slots.le_refl (A:Slots):Slots.le A A:=fun _=>AV.le_refl _
theorem Rel.le {D:Nat→Prop} {n:Nat} {G:Ghost} {A B:Slots} {σ:Store} {a:Act} {w:World} (h:Rel D n G A σ a w) (hl:Slots.le A B):Rel D n G B σ a w:=
 ⟨h.defers,h.size,fun i=>(hl i _ _ (h.val i)).1,fun i=>(hl i _ _ (h.val i)).2 _ _ _ (h.own i),h.world,h.fresh⟩
theorem AWp.le {P:Program} {n:Nat} {c:Code} {Q:Exit→Slots→Store→Prop} {A B:Slots} {σ:Store} (h:AWp P n c Q B σ) (hl:Slots.le A B):AWp P n c Q A σ:=
 fun D G a w hR=>h D G a w (hR.le hl)
def Store.sub (σ' σ:Store):Prop:=∀o,σ' o=none∨σ' o=σ o
theorem Store.sub_refl (σ:Store):Store.sub σ σ:=fun _=> .inr rfl
theorem Store.sub_upd {σ τ:Store} {p:Nat} {cs:List AV} (hp:σ p=none) (h:Store.sub σ τ):Store.sub σ (τ.upd p cs):=fun o=>by
 by_cases ho:o=p
 ·subst ho;exact .inl hp
 ·rcases h o with h|h
  ·exact .inl h
  ·exact .inr (by simp[Store.upd,ho,h])
theorem Rel.sub {D:Nat→Prop} {n:Nat} {G:Ghost} {A:Slots} {σ τ:Store} {a:Act} {w:World} (h:Rel D n G A σ a w) (hs:Store.sub τ σ):Rel D n G A τ a w:=
 ⟨h.defers,h.size,h.val,h.own,h.world.forget hs,h.fresh⟩
theorem AWp.sub {P:Program} {n:Nat} {c:Code} {Q:Exit→Slots→Store→Prop} {A:Slots} {σ τ:Store} (h:AWp P n c Q A τ) (hs:Store.sub τ σ):AWp P n c Q A σ:=
 fun D G a w hR=>h D G a w (hR.sub hs)
theorem AWp.loop {P:Program} {n:Nat} {c:Code} {Q:Exit→Slots→Store→Prop} {A:Slots} {σ:Store} {X:Type} (Inv:X→Prop) (sl:X→Slots) (so:X→Store) (μ:X→Nat) (x0:X) (h0:Inv x0) (hA:Slots.le A (sl x0)) (hσ:Store.sub (so x0) σ)
  (round:∀x,Inv x→AWp P n c (athen (fun A' σ'=>∃y,Inv y∧μ y<μ x∧Slots.le A' (sl y)∧Store.sub (so y) σ') Q) (sl x) (so x)):AWp P n (.loop c) Q A σ:=by
 refine AWp.le (B:=sl x0) ?_ hA
 refine AWp.sub ?_ hσ
 intro D G a w hR
 have key:∀(m:Nat) (x:X),μ x≤m→Inv x→∀(G1:Ghost) (a1:Act) (w1:World),Rel D n G1 (sl x) (so x) a1 w1→Ext D G w G1 w1→Code.rounds P c (fun e a' w'=>lift D n G w (Q e) a' w') (m+1) a1 w1:=by
  intro m
  induction m with
  |zero=>
   intro x hx hI G1 a1 w1 hR1 hext
   rw[rounds_succ]
   refine wp_mono (round x hI D G1 a1 w1 hR1) fun e a' w' hl=> ?_
   cases e with
   |normal=>obtain ⟨G',A',σ',⟨y,_,hy,_⟩,_,_⟩:=hl;omega
   |_=>exact lift_trans hext hl
  |succ m ih=>
   intro x hx hI G1 a1 w1 hR1 hext
   rw[rounds_succ]
   refine wp_mono (round x hI D G1 a1 w1 hR1) fun e a' w' hl=> ?_
   cases e with
   |normal=>
    obtain ⟨G',A',σ',⟨y,hyI,hy,hle,hsub⟩,hR',hext'⟩:=hl
    exact ih y (by omega) hyI G' a' w' ((hR'.le hle).sub hsub) (hext.trans hext')
   |_=>exact lift_trans hext hl
 exact wp_loop_rounds _ (key (μ x0) x0 (Nat.le_refl _) h0 G a w hR (Ext.refl ..))
def slotsL:List (Nat×AV)→Slots
 |[]=>noSlots
 |p::r=>upd (slotsL r) p.1 p.2
def LeL (A:Slots):List (Nat×AV)→Prop
 |[]=>True
 |p::r=>(A p.1).le p.2∧LeL A r
theorem Slots.le_of {A:Slots} :∀ {l:List (Nat×AV)},LeL A l→Slots.le A (slotsL l)
 |[],_=>Slots.le_none A
 |_::_,h=>Slots.le_upd h.1 (Slots.le_of h.2)
theorem AWp.loopL {P:Program} (hm:P.follows .mixedOrders=true) {st:List Tmp} {plans:List (Nat×Plan)} {n:Nat} {c:Code} {Q:Exit→Slots→Store→Prop} {A:Slots} {σ:Store} {X:Type} (Inv:X→Prop) (sl:X→List (Nat×AV)) (so:X→Store) (μ:X→Nat) (x0:X)
  (hok:codeOk st plans n c=true) (h0:Inv x0) (hA:LeL A (sl x0)) (hσ:Store.sub (so x0) σ)
  (round:∀x,Inv x→awp P st plans n c (athen (fun A' σ'=>∃y,Inv y∧μ y<μ x∧LeL A' (sl y)∧Store.sub (so y) σ') Q) (slotsL (sl x)) (so x)):AWp P n (.loop c) Q A σ:=
 AWp.loop Inv (fun x=>slotsL (sl x)) so μ x0 h0 (Slots.le_of hA) hσ fun x hx=>(awp_sound hm c hok (round x hx)).mono fun e A' σ' h=>by
  cases e with
  |normal=>obtain ⟨y,h1,h2,h3,h4⟩:=h;exact ⟨y,h1,h2,Slots.le_of h3,h4⟩
  |_=>exact h
def resVal (P:Program) (A:Slots) (σ:Store):ResultVar→Option AV
 | .tmp t=>some (A t)
 | .cell p t=>(aLoad P σ t (A p)).map AV.share
def ares (P:Program) (A:Slots) (σ:Store):List ResultVar→Option AV
 |[r]=>resVal P A σ r
 |rs=>(rs.mapM (resVal P A σ)).map fun vs=> .tuple (vs.map AV.keep1)
def aret (P:Program) (rs:List ResultVar) (R:AV→Store→Prop):Exit→Slots→Store→Prop
 | .normal,A,σ| .ret,A,σ=>match ares P A σ rs with
  |some v=>∃v' σ',v.le v'∧Store.sub σ' σ∧R v' σ'
  |none=>False
 |_,_,_=>False
def resTmps (rs:List ResultVar):List Tmp:=rs.filterMap fun| .tmp t=>some t|_=>none
def resOk (rs:List ResultVar):Bool:=decide (resTmps rs).Nodup
def toRes (rs:List ResultVar):Place→Place
 | .slot t j=>match rs with
  |[_]=> .acc j
  |rs=> .acc (rs.findIdx fun| .tmp u=>u==t|_=>false)
 |π=>π
def resSem (tmps:Array Value):ResultVar→Sem Value
 | .tmp t=>pure (tmps.getD t undef)
 | .cell p t=>do loadVar t (←asAddr (tmps.getD p undef))
theorem results_eq (fn:Func) (tmps:Array Value):results fn tmps=(do let vs←fn.results.mapM (resSem tmps);pure (if h:vs.size=1 then vs[0] else .tuple vs)):=by
 unfold results
 congr 2
theorem toRes_many:∀(rs:List ResultVar) (t:Tmp) (j:Nat),(∀r,rs=[r]→False)→toRes rs (.slot t j)= .acc (rs.findIdx fun| .tmp u=>u==t|_=>false)
 |[],_,_,_=>rfl
 |[r],_,_,h=>(h r rfl).elim
 |_::_::_,_,_,_=>rfl
theorem run_resVal {P:Program} {D:Nat→Prop} {n:Nat} {G:Ghost} {A:Slots} {σ:Store} {a:Act} {w:World} (hR:Rel D n G A σ a w) {r:ResultVar} {v:AV} (h:resVal P A σ r=some v):
  ∃cv,(resSem a.tmps r).run P w= .ok cv w∧VR G.F v cv∧
   (∀t,r= .tmp t→cv=a.tmps.getD t undef∧v=A t)∧((∃p t,r= .cell p t)→v.plain=true):=by
 cases r with
 |tmp t=>simp[resVal] at h;subst h;exact ⟨_,rfl,hR.val t,fun t' h=>by cases h;exact ⟨rfl,rfl⟩,fun ⟨_,_,h⟩=>by cases h⟩
 |cell p t=>
  simp only[resVal] at h
  cases hl:aLoad P σ t (A p) with
  |none=>simp[hl] at h
  |some v'=>
   simp[hl] at h;subst h
   obtain ⟨cv,h1,h2⟩:=aLoad_sound hR.world hl (hR.val p)
   refine ⟨cv, ?_,h2.share,fun t' h=>(by cases h),fun _=> ?_⟩
   ·generalize hx:a.tmps.getD p undef=x at h1
    cases x with
    |pointer ad=>
     cases ad with
     |none=>simp[Instr.loadAt,Instr.sureAddr] at h1
     |some ad=>
      have hx':a.tmps[p]?.getD undef= .pointer (some ad):=by simpa using hx
      simpa[resSem,Instr.loadAt,Instr.sureAddr,asAddr,hx'] using h1
    |_=>simp[Instr.loadAt,Instr.sureAddr] at h1
   ·cases v' with
    |agg cs=>simp[AV.share,AV.plain,plain1_drop1]
    |tuple cs=>simp[AV.share,AV.plain,plain1_drop1]
    |_=>rfl
theorem mapM_res {P:Program} {D:Nat→Prop} {n:Nat} {G:Ghost} {A:Slots} {σ:Store} {a:Act} {w:World} (hR:Rel D n G A σ a w):∀(rs:List ResultVar) (vs:List AV),rs.mapM (resVal P A σ)=some vs→
  ∃cvs:List Value,(rs.mapM (resSem a.tmps)).run P w= .ok cvs w∧vs.length=rs.length∧cvs.length=rs.length∧
   ∀(i:Nat) (r:ResultVar) (v:AV) (cv:Value),rs[i]?=some r→vs[i]?=some v→cvs[i]?=some cv→VR G.F v cv∧(∀t,r= .tmp t→cv=a.tmps.getD t undef∧v=A t)∧((∃p t,r= .cell p t)→v.plain=true)
 |[],vs,h=>by simp at h;subst h;exact ⟨[],rfl,rfl,rfl,by simp⟩
 |r::rs,vs,h=>by
  simp only[List.mapM_cons] at h
  cases hv:resVal P A σ r with
  |none=>rw[hv] at h;simp at h
  |some v=>
   cases hvs:rs.mapM (resVal P A σ) with
   |none=>rw[hv,hvs] at h;simp at h
   |some vs'=>
    rw[hv,hvs] at h;simp at h;subst h
    obtain ⟨cv,h1,h2,h3,h4⟩:=run_resVal hR hv
    obtain ⟨cvs,k1,k2,k3,k4⟩:=mapM_res hR rs vs' hvs
    refine ⟨cv::cvs, ?_,by simp[k2],by simp[k3],fun i r' v' cv' hr hv' hcv=> ?_⟩
    ·simp only[List.mapM_cons,Sem.run_bind,h1,Result.andThen_ok,k1,Sem.run_pure]
    ·cases i with
     |zero=>simp at hr hv' hcv;subst hr hv' hcv;exact ⟨h2,h3,h4⟩
     |succ i=>simp at hr hv' hcv;exact k4 i r' v' cv' hr hv' hcv
theorem findIdx_tmp {rs:List ResultVar} (hnd:(resTmps rs).Nodup):∀(i:Nat) (t:Tmp),rs[i]?=some (.tmp t)→(rs.findIdx fun| .tmp u=>u==t|_=>false)=i:=by
 induction rs with
 |nil=>intro i t h;simp at h
 |cons r rs ih=>
  intro i t h
  cases i with
  |zero=>simp at h;subst h;simp[List.findIdx_cons]
  |succ i=>
   simp at h
   rw[List.findIdx_cons]
   have hmem:t∈resTmps rs:=by
    simp only[resTmps,List.mem_filterMap]
    exact ⟨.tmp t,List.mem_of_getElem? h,rfl⟩
   cases r with
   |tmp u=>
    have hnd:u∉resTmps rs∧(resTmps rs).Nodup:=by simpa[resTmps] using hnd
    have hne:u≠t:=fun e=>hnd.1 (e▸hmem)
    have:=ih hnd.2 i t h
    have hb:(u==t)=false:=beq_eq_false_iff_ne.2 hne
    simp[hb,this]
   |cell p u=>
    have hnd:(resTmps rs).Nodup:=by simpa[resTmps] using hnd
    have:=ih hnd i t h
    simp[this]
theorem ares_sound {P:Program} {fn:Func} (hok:resOk fn.results.toList=true) {D:Nat→Prop} {n:Nat} {G:Ghost} {A:Slots} {σ:Store} {a:Act} {w:World} (hR:Rel D n G A σ a w) {v:AV} (h:ares P A σ fn.results.toList=some v):
  ∃cv,(results fn a.tmps).run P w= .ok cv w∧VR G.F v cv∧OwnAt (G.mv D (toRes fn.results.toList)) D .acc v cv:=by
 have hres:∀(cvs:List Value),(fn.results.toList.mapM (resSem a.tmps)).run P w= .ok cvs w→
   (results fn a.tmps).run P w= .ok (if h:cvs.length=1 then cvs[0] else .tuple cvs.toArray) w:=fun cvs hc=>by
  rw[results_eq,Sem.run_bind,Array.mapM_eq_mapM_toList,Sem.run_map,hc]
  simp only[Result.andThen_ok,Sem.run_pure]
  congr 1
 unfold ares at h
 split at h
 ·rename_i r hr
  obtain ⟨cv,h1,h2,h3,h4⟩:=run_resVal hR h
  refine ⟨cv, ?_,h2, ?_⟩
  ·have:=hres [cv] (by rw[hr];simp only[List.mapM_cons,List.mapM_nil,Sem.run_bind,h1,Result.andThen_ok,Sem.run_pure])
   simpa using this
  ·cases r with
   |tmp t=>
    obtain ⟨rfl,rfl⟩:=h3 t rfl
    exact (hR.own t).re fun g m z j hd hg=>by rw[Ghost.mv_some hd hg,hr];rfl
   |cell p t=>exact OwnAt.of_plain (h4 ⟨p,t,rfl⟩)
 ·rename_i rs hne
  cases hm:fn.results.toList.mapM (resVal P A σ) with
  |none=>rw[hm] at h;simp at h
  |some vs=>
   rw[hm] at h;simp at h;subst h
   obtain ⟨cvs,h1,h2,h3,h4⟩:=mapM_res hR _ vs hm
   have hl1:cvs.length≠1:=fun hl=>by
    rw[hl] at h3
    match hh:fn.results.toList,h3 with
    |[r],_=>exact hne r hh
   refine ⟨.tuple cvs.toArray,by rw[hres cvs h1,dif_neg hl1], .tuple _ _ (by simp[h2,h3]) fun i c u hc hu=> ?_,fun j c u hc hu=> ?_⟩
   ·rw[List.getElem?_map] at hc
    cases hv:vs[i]? with
    |none=>simp[hv] at hc
    |some v=>
     simp[hv] at hc;subst hc
     have hi:i<fn.results.toList.length:=by have:=(List.getElem?_eq_some_iff.1 hv).1;omega
     exact (h4 i _ v u (List.getElem?_eq_getElem hi) hv (by simpa using hu)).1.keep1
   ·rw[List.getElem?_map] at hc
    cases hv:vs[j]? with
    |none=>simp[hv] at hc
    |some v=>
     simp[hv] at hc;subst hc
     have hi:j<fn.results.toList.length:=by have:=(List.getElem?_eq_some_iff.1 hv).1;omega
     have hr:=List.getElem?_eq_getElem hi
     obtain ⟨q1,q2,q3⟩:=h4 j _ v u hr hv (by simpa using hu)
     cases v with
     |list own sz ws=>
      cases hrr:fn.results.toList[j] with
      |tmp t=>
       obtain ⟨rfl,hA⟩:=q2 t hrr
       have ho:=hR.own t
       rw[←hA] at ho
       refine Own1.re (π:= .slot t 0) ho fun g m z hd hg=> ?_
       rw[Ghost.mv_some hd hg]
       have hidx:=findIdx_tmp (rs:=fn.results.toList) (by simpa[resOk] using hok) j t (by rw[hr,hrr])
       have:toRes fn.results.toList (.slot t 0)= .acc j:=by
        rw[toRes_many _ _ _ hne,hidx]
       rw[this]
      |cell p t=>
       have:=q3 ⟨p,t,hrr⟩
       exact Own1.of_plain (by simpa[AV.plain,AV.keep1,AV.plain1] using this)
     |agg cs=>exact Own1.of_plain rfl
     |tuple cs=>exact Own1.of_plain rfl
     |_=>exact Own1.of_plain rfl
def slotsOf (args:List AV):Slots:=fun i=>(args[i]?).getD .top
def fromArg:Place→Place
 | .arg i j=> .slot i j
 |π=>π
theorem ACalls.of_awp {P:Program} (hm:P.follows .mixedOrders=true) {f:FuncId} {fn:Func} {c:Code} (hf:P.funcs[f]?=some fn) (hb:fn.body=some c) {st:List Tmp} {plans:List (Nat×Plan)} {args:List AV} (hr:resOk fn.results.toList=true)
  {n:Nat} (hn:args.length+(fn.ntmps-args.length)=n) (hok:codeOk st plans n c=true) {σ:Store} {R:AV→Store→Prop} (h:awp P st plans n c (aret P fn.results.toList R) (slotsOf args) σ):ACalls P f args σ R:=by
 intro D G w cargs hl hargs hW hD
 refine calls_of_wp hf hb ?_
 have hR:Rel D n (G.mv D fromArg) (slotsOf args) σ {tmps:=cargs++Array.replicate (fn.ntmps-cargs.size) undef,defers:=[]} w:=by
  have key:∀i,(∃c u,args[i]?=some c∧cargs[i]?=some u∧slotsOf args i=c∧(cargs++Array.replicate (fn.ntmps-cargs.size) undef).getD i undef=u)∨slotsOf args i= .top:=by
   intro i
   rcases Nat.lt_or_ge i args.length with hi|hi
   ·refine .inl ⟨args[i],cargs[i]'(by omega),by simp,by simp,by simp[slotsOf,hi], ?_⟩
    simp[Array.getD_eq_getD_getElem?,Array.getElem?_append_left (show i<cargs.size by omega),show i<cargs.size by omega]
   ·exact .inr (by simp[slotsOf,hi])
  refine ⟨rfl,by simp;omega,fun i=> ?_,fun i=> ?_,hW.mv _ (fun _ _=>rfl),hD⟩
  ·rcases key i with ⟨c,u,h1,h2,h3,h4⟩|h3
   ·rw[h3];simp only[h4];exact (hargs i c u h1 h2).1
   ·rw[h3];exact .top _
  ·rcases key i with ⟨c,u,h1,h2,h3,h4⟩|h3
   ·rw[h3];simp only[h4];exact (hargs i c u h1 h2).2.re fun g m z j hd hg=>by rw[Ghost.mv_some hd hg];rfl
   ·rw[h3];exact OwnAt.of_plain rfl
 refine wp_mono (awp_sound hm c hok h D _ _ w hR) fun e a' w' hl'=> ?_
 obtain ⟨G',A',σ',h1,h2,h3⟩:=hl'
 have fin:(match ares P A' σ' fn.results.toList with|some v=>∃v' σ'',v.le v'∧Store.sub σ'' σ'∧R v' σ''|none=>False)→
   a'.defers=[]∧∃v,(results fn a'.tmps).run P w'= .ok v w'∧∃v0 cv G'' σ'',Ending.returned v= .returned cv∧R v0 σ''∧VR G''.F v0 cv∧OwnAt G'' D .acc v0 cv∧WR D G'' σ'' w'∧Ext D G w G'' w':=by
  intro hh
  refine ⟨h2.defers, ?_⟩
  split at hh
  ·rename_i v hv
   obtain ⟨v',σ'',hle,hsub,hRR⟩:=hh
   obtain ⟨cv,q1,q2,q3⟩:=ares_sound hr h2 hv
   exact ⟨cv,q1,v',cv,G'.mv D (toRes fn.results.toList),σ'',rfl,hRR,(hle _ _ q2).1,(hle _ _ q2).2 _ _ _ q3,(h2.world.mv _ (fun _ _=>rfl)).forget hsub,((Ext.mv ..).trans h3).trans (Ext.mv ..)⟩
  ·exact hh.elim
 cases e with
 |normal=>exact fin h1
 |ret=>exact fin h1
 |_=>exact h1.elim
def allFrz (W:World):Frz:=fun g i=>match W.heap[g]? with
 |some (.cells cur _ _)=>cur[i]?
 |_=>none
theorem law_calls {P:Program} {f:FuncId} {args:List AV} (h:ACalls P f args (fun _=>none) fun v _=>v= .lit (.bool true)) (W:World) (cargs:Array Value) (hl:args.length=cargs.size)
  (hargs:∀(i:Nat) (c:AV) (u:Value),args[i]?=some c→cargs[i]?=some u→VR (allFrz W) c u∧c.plain=true)
  (hlaid:∀g cs,GL.tab g=some cs→VR (allFrz W) (.fptr cs) (.pointer (some ⟨g,0,none⟩)))
  (hvars:∀g cs,GL.vars g=some cs→∃T fz,W.heap[g]?=some (.cells cs T fz):=by exact fun _ _ h=>by cases h):
  Calls P f cargs W fun e W'=>e= .returned (.bool true)∧Below W.heap.size W W':=by
 refine (h (fun k=>W.heap.size≤k) ⟨allFrz W,fun _=>none⟩ W cargs hl (fun i c u hc hu=>⟨(hargs i c u hc hu).1,OwnAt.of_plain (hargs i c u hc hu).2⟩) ⟨fun g i u hu=> ?_,fun g n z π hg=>(by cases hg),fun o cs ho=>(by cases ho),hlaid,fun g cs hg=>(by cases hg),fun g cs hg=>⟨⟨rfl,rfl,rfl⟩,hvars g cs hg⟩⟩ (fun k hk=>hk)).mono ?_
 ·simp only[allFrz] at hu
  split at hu
  ·rename_i cur e fz hg;exact ⟨cur,e,fz,hg,hu⟩
  ·cases hu
 ·rintro e w' ⟨v,cv,G',σ',rfl,rfl,hv,_,_,hext⟩
  cases hv
  exact ⟨rfl,hext.os,hext.tape,hext.output,hext.size,fun k hk=>(hext.block k (by omega)).1⟩
end Go.AL
