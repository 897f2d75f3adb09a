/-
 What the table of the commands reads as.
-/
import Derived.Test.YtjnopnpkfhopbaaGreatDoorPart30
import Derived.Test.YtjnopnpkfhopbaaGreatDoorRows
import Derived.Lay
import Derived.LaidMore
set_option linter.unusedSimpArgs false
set_option linter.unusedVariables false
set_option maxRecDepth 8000
set_option maxHeartbeats 8000000
namespace Go.Proofs.YtjnopnpkfhopbaaGreatDoor
open Go Go.AL Go.ChangeShapes Go.WideShapes Go.ChangeAt Go.RowKit Go.Lib
def laid1:List (String×DataW Unit):=[("vitrine/write.names",Rows.laid_vitrine_write_names)]
def nameV (x:List UInt8×UInt8×UInt8):List Value:=[.string ⟨x.1.toArray⟩, .int .u8 x.2.1.toNat, .int .u8 x.2.2.toNat]
def nameD (x:List UInt8×UInt8×UInt8):DataW Unit:= .agg [.lit (.string x.1), .lit (.int .u8 x.2.1.toNat), .lit (.int .u8 x.2.2.toNat)]
theorem laid_names:(Rows.laid_vitrine_write_names:DataW Unit)= .agg (cmdNames.map nameD):=rfl
theorem rows_flat:∀(N:List (List UInt8×UInt8×UInt8)) (L:List Value),L.length=N.length*3→(∀(r:Nat) x,N[r]?=some x→(L.drop (r*3)).take 3=nameV x)→L=N.flatMap nameV
 |[],L,hl,_=>by simpa using hl
 |x::N,L,hl,h=>by
  have h0:=h 0 x rfl
  have hr:=rows_flat N (L.drop 3) (by simp only[List.length_drop];simp at hl;omega) fun r y hy=>by
   have:=h (r+1) y hy
   rw[List.drop_drop,←this,show 3+r*3=(r+1)*3 by omega]
  rw[List.flatMap_cons,←hr,←h0]
  simp
theorem row80 {W:World} {base:Nat} {sp:Nat→Bool} {held:Bool} {fuel:Nat} {l:List Value} {x:List UInt8×UInt8×UInt8} {p:List MemPlace}
  (h:DataW.trod (fun _=>()) Tryz.prog W base sp held fuel 140 l=some (nameD x,p)):l=nameV x:=by
 obtain ⟨xs,n,_,ex,hl,hn,hf⟩:=DataW.trod_struct Tryz.underlying140 h
 have c80:Tryz.prog.cellsOf 140=3:=by kernel_rfl
 have c9:Tryz.prog.cellsOf 9=1:=by kernel_rfl
 have c5:Tryz.prog.cellsOf 5=1:=by kernel_rfl
 rw[c80] at hl
 have hn3:xs.length=3:=hn
 obtain ⟨y0,y1,y2,rfl⟩:∃y0 y1 y2,xs=[y0,y1,y2]:=by
  rcases xs with _|⟨a,_|⟨b,_|⟨c,_|⟨d,r⟩⟩⟩⟩<;>simp at hn3
  exact ⟨a,b,c,rfl⟩
 obtain ⟨v0,v1,v2,rfl⟩:∃y0 y1 y2,l=[y0,y1,y2]:=by
  rcases l with _|⟨a,_|⟨b,_|⟨c,_|⟨d,r⟩⟩⟩⟩<;>simp at hl
  exact ⟨a,b,c,rfl⟩
 have f0:=hf 0 _ rfl
 have f1:=hf 1 _ rfl
 have f2:=hf 2 _ rfl
 obtain ⟨s,g0,d0,_⟩:=DataW.trod_string Tryz.underlying9 (f0.trans rfl)
 obtain ⟨a,g1,d1,_⟩:=DataW.trod_int Tryz.underlying5 (f1.trans rfl)
 obtain ⟨b,g2,d2,_⟩:=DataW.trod_int Tryz.underlying5 (f2.trans rfl)
 have q0:List.take (Tryz.prog.cellsOf 9) [v0,v1,v2]=[.string s]:=g0
 have q1:List.take (Tryz.prog.cellsOf 5) [v1,v2]=[.int .u8 a]:=g1
 have q2:List.take (Tryz.prog.cellsOf 5) [v2]=[.int .u8 b]:=g2
 rw[c9] at q0
 rw[c5] at q1 q2
 obtain rfl:v0= .string s:=(List.cons.inj q0).1
 obtain rfl:v1= .int .u8 a:=(List.cons.inj q1).1
 obtain rfl:v2= .int .u8 b:=(List.cons.inj q2).1
 subst d0 d1 d2
 have e:=DataW.agg.inj (Prod.mk.inj ex).1
 simp only[List.map_cons,List.map_nil,List.cons.injEq,DataW.lit.injEq,Lit.string.injEq,Lit.int.injEq,true_and,and_true] at e
 obtain ⟨e0,e1,e2⟩:=e
 unfold nameV
 rw[e0,e1,e2]
theorem laid_vr {W:World} (h:laidMetH Tryz.prog laid1 W):∀g cs,GL.tab g=some cs→VR (allFrz W) (.fptr cs) (.pointer (some ⟨g,0,none⟩)):=by
 rw[MakeChecks.laidMetH_plain _ _ _ (by kernel_rfl)] at h
 obtain ⟨ps,⟨g,t,cs,fuel,p,q,hg,ht,hv,hd,_,_⟩,_,_⟩:=h
 obtain rfl:=Option.some.inj ((show Tryz.prog.globalNamed "vitrine/write.names" =some 0 by kernel_rfl).symm.trans hg)
 obtain rfl:=Option.some.inj ((show (Tryz.prog.globals[0]?).map (·.type)=some 141 by kernel_rfl).symm.trans ht)
 obtain ⟨xs,m,_,ex,hc,hl,hel⟩:=DataW.trod_array Tryz.underlying141 hd
 have c80:Tryz.prog.cellsOf 140=3:=by kernel_rfl
 have c81:Tryz.prog.cellsOf 141=27:=by kernel_rfl
 rw[c81] at hc
 have e3:xs.map (·.1)=cmdNames.map nameD:=(DataW.agg.inj ((Prod.mk.inj ex).1.symm.trans laid_names)).symm▸rfl
 have hcs:cs.toList=cmdNames.flatMap nameV:=by
  refine rows_flat cmdNames cs.toList hc fun r x hx=> ?_
  have hr9:r<9:=(List.getElem?_eq_some_iff.1 hx).1
  have he:=hel r hr9
  rw[c80] at he
  have e4:(xs.map (·.1))[r]?=(cmdNames.map nameD)[r]?:=by rw[e3]
  rw[List.getElem?_map,List.getElem?_map,hx] at e4
  cases hxr:xs[r]? with
  |none=>rw[hxr] at e4;cases e4
  |some y=>
   rw[hxr] at e4 he
   obtain ⟨d,p⟩:=y
   simp only[Option.map_some,Option.some.injEq] at e4
   subst e4
   exact row80 he
 intro g cs2 hg2
 have:g=0∧cs2=cmdsO:=by
  have hg3:(if g=0 then some cmdsO else none)=some cs2:=hg2
  split at hg3
  ·exact ⟨‹_›,(Option.some.inj hg3).symm⟩
  ·cases hg3
 obtain ⟨rfl,rfl⟩:=this
 have hlit:cmdsO=(cmdNames.flatMap nameV).map .lit:=rfl
 refine .fptr _ _ _ (cmdNames.flatMap nameV) rfl (fun i u hu=>⟨?_, ?_⟩) fun i c u hc hu=> ?_
 ·rw[Nat.zero_add]
  refine cell_back ?_
  rw[World.var?_cell hg hv i,←Array.getElem?_toList,hcs];exact hu
 ·have:(cmdNames.flatMap nameV).all Value.oneCell'=true:=by decide
  exact List.all_eq_true.1 this u (List.mem_of_getElem? hu)
 ·rw[hlit,List.getElem?_map,hu] at hc
  obtain rfl:=Option.some.inj hc
  exact .lit _
theorem own_entryReplays:ownKnob Tryz.prog.godebug=none:=by kernel_rfl
theorem laid_entryReplays:laidOutB Tryz.prog=true:=by kernel_rfl
theorem rec22_entryReplays:Tryz.prog.readableRec 22=true:=by kernel_rfl
theorem row22_entryReplays:(22:TypeId)<Tryz.prog.types.size:=of_decide_eq_true (by kernel_rfl)
theorem rec5_entryReplays:Tryz.prog.readableRec 5=true:=by kernel_rfl
theorem row5_entryReplays:(5:TypeId)<Tryz.prog.types.size:=of_decide_eq_true (by kernel_rfl)
set_option maxRecDepth 100000 in
theorem entryReplays_lifted (os:Os) (started:os.Started) (H:Type) (enc:TypeId×Value→H):
  ReturnsInHanded {} Tryz.checked os 3 .any (fun w args=>(Rows.entryReplaysSpec.pre enc Tryz.prog Tryz.f3 [] false w args∧laidMetH Tryz.prog laid1 w)∧sizedMet enc Tryz.prog Tryz.f3 (OpenSpec.ofChange Rows.entryReplaysSpec) false w args) (Rows.entryReplaysSpec.post enc Tryz.prog Tryz.f3 false true false false):=by
 refine returnsInHanded_of_change_and (C:=Tryz.checked) (X:=fun w _=>laidMetH Tryz.prog laid1 w) (fun _ _ _ hh h=>h.of_heap hh) own_entryReplays started (by kernel_rfl) Tryz.func3
  (ChangeSpec.witness_shaped (enc:=enc) (C:=Tryz.checked) (os:=os) (X:=fun w _=>laidMetH Tryz.prog laid1 w) false (World.laidAll Tryz.prog os laid1) #[.int .u8 0, .slice none 0 0, .slice none 0 0, .int .u8 0, .int .u8 0] 8 (World.laidAll_os _ _ _)
   (World.shaped_of_ZipB (by kernel_rfl) (by kernel_rfl)) (by kernel_rfl) (by kernel_rfl) (by kernel_rfl)
   (by rw[MakeChecks.laidMetH_plain _ _ _ (by kernel_rfl)];exact laidMet_laidAll _ (by kernel_rfl) (by kernel_rfl))) ?_
 intro W base args ds gs before hval0 hW _ _ hL _
 have hval:∀(j:Nat) t v,Tryz.f3.params[j]?=some t→args[j]?=some v→Value.okWide Tryz.prog W .any base t v:=hval0
 have hW':=hW
 obtain ⟨p,q,hA0,hV,rfl,hfz,hnd⟩:=hW
 have hA:DataW.TrodAll enc Tryz.prog W 0 (fun _=>true) true Tryz.f3.params.toList args.toList ds p:=hA0
 rw[Tryz.params3] at hA hval
 obtain ⟨v0,v1,v2,v3,v4,d0,d1,d2,d3,d4,p0,p1,p2,p3,p4,rfl,rfl,rfl,h0,h1,h2,h3,h4⟩:=trodAll_five hA
 obtain ⟨rfl,rfl⟩:=trodVars_none hV
 obtain ⟨_,hv0⟩:=okWide_int Tryz.underlying5 (hval 0 5 v0 rfl rfl)
 obtain ⟨a0,m0,w0⟩:=(Opens.u8 Tryz.underlying5).arg _ (fun _=>rfl) (by rw[hv0];rfl) h0
 obtain ⟨_,_,_,hv1⟩:=okWide_slice Tryz.underlying22 (hval 1 22 v1 rfl rfl)
 obtain ⟨a1,m1,w1⟩:=(open_acts).arg _ (fun _=>rfl) (by rw[hv1];rfl) h1
 obtain ⟨_,_,_,hv2⟩:=okWide_slice Tryz.underlying22 (hval 2 22 v2 rfl rfl)
 obtain ⟨a2,m2,w2⟩:=(open_acts).arg _ (fun _=>rfl) (by rw[hv2];rfl) h2
 obtain ⟨_,hv3⟩:=okWide_int Tryz.underlying5 (hval 3 5 v3 rfl rfl)
 obtain ⟨a3,m3,w3⟩:=(Opens.u8 Tryz.underlying5).arg _ (fun _=>rfl) (by rw[hv3];rfl) h3
 obtain ⟨_,hv4⟩:=okWide_int Tryz.underlying5 (hval 4 5 v4 rfl rfl)
 obtain ⟨a4,m4,w4⟩:=(Opens.u8 Tryz.underlying5).arg _ (fun _=>rfl) (by rw[hv4];rfl) h4
 clear hA0 hval0
 simp only[List.append_nil] at hW'
 have hlt:∀x∈p0++p1++p2++p3++p4,x.block<W.heap.size:=fun x hx=>hW'.lt x hx
 refine (law_calls ((entryReplays_law a0 a1 a2 a3 a4 m1.1 m1.2 m2.1 m2.2 _)) W #[v0,v1,v2,v3,v4] rfl (fun i c u hc hu=> ?_) (laid_vr hL)).mono fun e W' ⟨he,hb⟩=> ?_
 ·match i with
  |0=>simp at hc hu;subst hc hu;exact ⟨w0,rfl⟩
  |1=>simp at hc hu;subst hc hu;exact ⟨w1,rfl⟩
  |2=>simp at hc hu;subst hc hu;exact ⟨w2,rfl⟩
  |3=>simp at hc hu;subst hc hu;exact ⟨w3,rfl⟩
  |4=>simp at hc hu;subst hc hu;exact ⟨w4,rfl⟩
  |n+5=>simp at hc
 subst he
 refine ⟨_,rfl,[d0,d1,d2,d3,d4],[],p0++p1++p2++p3++p4,[],p0++(p1++(p2++(p3++p4))),[],hW', ?_, ?_,rfl,hb.frame _,fun h=>(by cases h)⟩
 ·exact trodAll_mk1 (shut_bool Tryz.underlying4 true)
 ·refine trodAll_mk5 (Below.trod laid_entryReplays rec5_entryReplays row5_entryReplays h0 hb fun x hx=>hlt x (by simp[hx])) (Below.trod laid_entryReplays rec22_entryReplays row22_entryReplays h1 hb fun x hx=>hlt x (by simp[hx])) (Below.trod laid_entryReplays rec22_entryReplays row22_entryReplays h2 hb fun x hx=>hlt x (by simp[hx])) (Below.trod laid_entryReplays rec5_entryReplays row5_entryReplays h3 hb fun x hx=>hlt x (by simp[hx])) (Below.trod laid_entryReplays rec5_entryReplays row5_entryReplays h4 hb fun x hx=>hlt x (by simp[hx]))
theorem entryReplays_holds:Rows.EntryReplaysSaid:=
 OpenClaim.holds_of_wide 3 Tryz.f3 rfl rfl rfl rfl rfl rfl rfl ⟨rfl,rfl,rfl,rfl,rfl⟩ rfl rfl rfl rfl rfl (by kernel_rfl) Tryz.func3 (by kernel_rfl)
  (of_decide_eq_true (by kernel_rfl)) (by unfold Func.isWrapper;first|(rw[if_pos (by decide+kernel)];kernel_rfl)|(rw[if_neg (by decide+kernel)];exact ⟨rfl,rfl⟩))
  (fun os started H enc _=>entryReplays_lifted os started H enc)
end Go.Proofs.YtjnopnpkfhopbaaGreatDoor
