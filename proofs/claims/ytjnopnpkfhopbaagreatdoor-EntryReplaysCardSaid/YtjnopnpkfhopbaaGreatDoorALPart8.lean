/-
 The abstract-state logic: iterators that tell a list, and the loops over them.
-/
import Derived.Test.YtjnopnpkfhopbaaGreatDoorALPart7
import Derived.ProofKit
import Derived.OpenShut
import Derived.Scope
set_option linter.unusedSimpArgs false
set_option linter.unusedVariables false
set_option maxRecDepth 8000
set_option maxHeartbeats 8000000
namespace Go.AL
open Go Classical
variable [GL]
set_option linter.unusedSectionVars false
theorem AYields.sub {P:Program} {X:Nat→Prop} {l:Nat} {args:List AV} {τ σ:Store} {E:Env X} {R:Bool→Store→Env X→Prop} (h:AYields P l args τ E R) (hs:Store.sub τ σ):AYields P l args σ E R:=
 fun D G w cargs h1 h2 h3 h4 h5=>h D G w cargs h1 h2 (h3.forget hs) h4 h5
def Iter (P:Program) (f:FuncId) (caps:List AV) (σ:Store) (xs:List (List AV)):Prop:=
 ∀(X:Nat→Prop) (l:Nat) (I:Nat→Store→Env X→Prop) (J:Store→Env X→Prop),
  (∀(k:Nat) (h:k<xs.length) (τ:Store) (E:Env X),I k τ E→AYields P l xs[k] τ E fun b τ' E'=>if b=true then I (k+1) τ' E' else J τ' E')→
  ∀(τ:Store) (E:Env X),I 0 τ E→Store.sub τ σ→
   ACallsY P f (.func (.yield l) [] []::caps.map AV.share) σ E fun _ σ' E'=>∃τ',Store.sub τ' σ'∧(I xs.length τ' E'∨J τ' E')
def roundQ {X:Nat→Prop} (live:Store→Env X→Prop) (dead:Code→Store→Env X→Prop):Exit→Env X→Slots→Store→Prop
 | .normal,E,_,σ=>∃τ,Store.sub τ σ∧live τ E
 | .ret,E,_,σ=>∃τ,Store.sub τ σ∧dead .ret τ E
 | .exit id,E,_,σ=>∃τ,Store.sub τ σ∧dead (.exit id) τ E
 | .goto t,E,_,σ=>∃τ,Store.sub τ σ∧dead (.goto t) τ E
 |_,_,_,_=>False
theorem codeYK.range {P:Program} {X:Nat→Prop} (hm:P.follows .mixedOrders=true) {st:List Tmp} {plans:List (Nat×Plan)} {n:Nat} {g:Operand} {ps:Array Tmp} {assign body:Code} {A:Slots} {σ:Store} {E:Env X} {Q:Exit→Env X→Slots→Store→Prop} {t:Tag Q}
  {f:FuncId} {caps:List AV} {xs:List (List AV)} (hi:Iter P f caps σ xs) (hg:evalA A g= .func (.func f) [] caps) (hc:callable P f=true) (hlen:∀x∈xs,x.length=ps.size) (hps:(ps.toList.all fun p=>decide (p<n))=true)
  (hok1:codeOkY st plans n assign=true) (hok2:codeOkY st plans n body=true) (Live:Nat→Store→Env X→Prop) (Dead:Code→Store→Env X→Prop) (τ0:Store) (h0:Live 0 τ0 E) (hs0:Store.sub τ0 σ)
  (hround:∀(k:Nat) (h:k<xs.length) (τ:Store) (E:Env X),Live k τ E→awpY P st plans n assign (thenY (awpY P st plans n body (roundQ (Live (k+1)) Dead)) fun _ _ _ _=>False) E (setPs (fun i=>(A i).share) ps.toList xs[k]) τ)
  (hdone:∀(τ:Store) (E:Env X) (σ':Store),Store.sub τ σ'→Live xs.length τ E→Q .normal E A σ')
  (hdead:∀(c:Code) (τ:Store) (E:Env X) (σ':Store),Store.sub τ σ'→Dead c τ E→jumpQ Q c E A σ'):codeYK P n (.rangeFunc g ps assign body) Q E A σ t:=by
 refine AWpY.rangeK hg hc fun l hl=> ?_
 let L:Link:=⟨fun i=>(A i).share,n,ps,assign,body⟩
 refine (hi (AddX X l) l (fun k τ E'=>∃τ1 E0,Store.sub τ1 τ∧Live k τ1 E0∧E'=E0.link l L .ready none) (fun τ E'=>∃τ1 E0 c,Store.sub τ1 τ∧Dead c τ1 E0∧E'=E0.link l L .done (some c)) ?_ τ0 _ ⟨τ0,E,Store.sub_refl _,h0,rfl⟩ hs0).mono ?_
 ·rintro k hk τ E' ⟨τ1,E0,h1,h2,rfl⟩
  refine AYields.sub (AYields.of_round hl (L:=L) (hlen _ (List.getElem_mem hk)) (fun p hp=>by simpa using List.all_eq_true.1 hps p hp) (fun i=>share_plain _) ?_) h1
  refine (awpY_sound hm assign hok1 (hround k hk τ1 E0 h2)).mono fun e E2 A2 σ2 hh=> ?_
  cases e with
  |normal=>
   refine AWpY.mono (awpY_sound hm body hok2 hh) fun e E3 A3 σ3 h3=> ?_
   cases e with
   |normal=>obtain ⟨τ3,q1,q2⟩:=h3;exact ⟨τ3,E3,q1,q2,rfl⟩
   |ret=>obtain ⟨τ3,q1,q2⟩:=h3;exact ⟨τ3,E3,_,q1,q2,rfl⟩
   |exit id=>obtain ⟨τ3,q1,q2⟩:=h3;exact ⟨τ3,E3,_,q1,q2,rfl⟩
   |goto t=>obtain ⟨τ3,q1,q2⟩:=h3;exact ⟨τ3,E3,_,q1,q2,rfl⟩
   |_=>exact h3.elim
  |_=>exact hh
 ·rintro v σ' E' ⟨τ',h1,⟨τ1,E0,h2,h3,rfl⟩|⟨τ1,E0,c,h2,h3,rfl⟩⟩
  ·exact .inl ⟨E0,rfl,hdone τ1 E0 σ' (Store.sub_trans h2 h1) h3⟩
  ·exact .inr ⟨E0,c,rfl,hdead c τ1 E0 σ' (Store.sub_trans h2 h1) h3⟩
section
variable {X:Nat→Prop} (live:Store→Env X→Prop) (dead:Code→Store→Env X→Prop) (E:Env X) (A:Slots) (σ:Store)
theorem y_round_normal:roundQ live dead .normal E A σ=∃τ,Store.sub τ σ∧live τ E:=nr rfl
theorem y_round_ret:roundQ live dead .ret E A σ=∃τ,Store.sub τ σ∧dead .ret τ E:=nr rfl
theorem y_round_exit (id:Nat):roundQ live dead (.exit id) E A σ=∃τ,Store.sub τ σ∧dead (.exit id) τ E:=nr rfl
theorem y_round_goto (id:Nat):roundQ live dead (.goto id) E A σ=∃τ,Store.sub τ σ∧dead (.goto id) τ E:=nr rfl
end
attribute [simp ↓] y_round_normal y_round_ret y_round_exit y_round_goto
@[simp] theorem setPs_nil (A:Slots) (vs:List AV):setPs A [] vs=A:=nr (by cases vs<;>rfl)
@[simp] theorem setPs_cons (A:Slots) (p:Tmp) (ps:List Tmp) (v:AV) (vs:List AV):setPs A (p::ps) (v::vs)=setPs (upd A p v.share) ps vs:=nr rfl
section
variable {X:Nat→Prop} (Q:Exit→Env X→Slots→Store→Prop) (E:Env X) (A:Slots) (σ:Store)
@[simp] theorem jumpQ_ret:jumpQ Q .ret E A σ=Q .ret E A σ:=nr rfl
@[simp] theorem jumpQ_exit (id:Nat):jumpQ Q (.exit id) E A σ=Q (.exit id) E A σ:=nr rfl
@[simp] theorem jumpQ_goto (id:Nat):jumpQ Q (.goto id) E A σ=Q (.goto id) E A σ:=nr rfl
end
end Go.AL
namespace Go.AL
open Go
variable [GL]
set_option linter.unusedSectionVars false
theorem wrap_u8 {n:Int} (h0:0≤n) (h1:n<256):IntKind.u8.wrap n=n:=by
 unfold IntKind.wrap
 simp[IntKind.signed,IntKind.bits]
 omega
theorem ofInt_u8 (a:UInt8):BitVec.ofInt 8 (a.toNat:Int)=a.toBitVec:=by
 rw[BitVec.ofInt_natCast]
 exact BitVec.ofNat_toNat _ a.toBitVec
theorem or_u8 (a b:UInt8):pureBin .or (.int .u8 (a.toNat:Int)) (.int .u8 (b.toNat:Int))=some (.int .u8 ((a|||b).toNat:Int)):=by
 have h:IntKind.u8.wrap ((BitVec.ofInt IntKind.u8.bits (a.toNat:Int)|||BitVec.ofInt IntKind.u8.bits (b.toNat:Int)).toNat:Int)=((a|||b).toNat:Int):=by
  have e:(BitVec.ofInt IntKind.u8.bits (a.toNat:Int)|||BitVec.ofInt IntKind.u8.bits (b.toNat:Int))=(a|||b).toBitVec:=by
   show (BitVec.ofInt 8 (a.toNat:Int)|||BitVec.ofInt 8 (b.toNat:Int))=_
   rw[ofInt_u8,ofInt_u8];rfl
  rw[e]
  have:=(a|||b).toNat_lt
  exact wrap_u8 (by omega) (by show (((a|||b).toNat:Nat):Int)<256;omega)
 unfold pureBin
 simp only[if_true]
 rw[h]
theorem and_u8 (a b:UInt8):pureBin .and (.int .u8 (a.toNat:Int)) (.int .u8 (b.toNat:Int))=some (.int .u8 ((a&&&b).toNat:Int)):=by
 have h:IntKind.u8.wrap ((BitVec.ofInt IntKind.u8.bits (a.toNat:Int)&&&BitVec.ofInt IntKind.u8.bits (b.toNat:Int)).toNat:Int)=((a&&&b).toNat:Int):=by
  have e:(BitVec.ofInt IntKind.u8.bits (a.toNat:Int)&&&BitVec.ofInt IntKind.u8.bits (b.toNat:Int))=(a&&&b).toBitVec:=by
   show (BitVec.ofInt 8 (a.toNat:Int)&&&BitVec.ofInt 8 (b.toNat:Int))=_
   rw[ofInt_u8,ofInt_u8];rfl
  rw[e]
  have:=(a&&&b).toNat_lt
  exact wrap_u8 (by omega) (by show (((a&&&b).toNat:Nat):Int)<256;omega)
 unfold pureBin
 simp only[if_true]
 rw[h]
theorem ofInt_i64 (a:Nat):BitVec.ofInt 64 (a:Int)=BitVec.ofNat 64 a:=BitVec.ofInt_natCast ..
theorem or_i64 (a b:Nat) (ha:a<4611686018427387904) (hb:b<4611686018427387904):pureBin .or (.int .i64 (a:Int)) (.int .i64 (b:Int))=some (.int .i64 ((a|||b:Nat):Int)):=by
 have hab:a|||b<4611686018427387904:=Nat.or_lt_two_pow (n:=62) ha hb
 have h:IntKind.i64.wrap ((BitVec.ofInt IntKind.i64.bits (a:Int)|||BitVec.ofInt IntKind.i64.bits (b:Int)).toNat:Int)=((a|||b:Nat):Int):=by
  have e:(BitVec.ofInt IntKind.i64.bits (a:Int)|||BitVec.ofInt IntKind.i64.bits (b:Int)).toNat=(a|||b):=by
   show (BitVec.ofInt 64 (a:Int)|||BitVec.ofInt 64 (b:Int)).toNat=_
   rw[ofInt_i64,ofInt_i64,BitVec.toNat_or,BitVec.toNat_ofNat,BitVec.toNat_ofNat,Nat.mod_eq_of_lt (by omega),Nat.mod_eq_of_lt (by omega)]
  rw[e]
  exact wrap_i64 (by omega) (by omega)
 unfold pureBin
 simp only[if_true]
 rw[h]
theorem and_i64 (a b:Nat) (ha:a<4611686018427387904) (hb:b<4611686018427387904):pureBin .and (.int .i64 (a:Int)) (.int .i64 (b:Int))=some (.int .i64 ((a&&&b:Nat):Int)):=by
 have hab:a&&&b≤a:=Nat.and_le_left
 have h:IntKind.i64.wrap ((BitVec.ofInt IntKind.i64.bits (a:Int)&&&BitVec.ofInt IntKind.i64.bits (b:Int)).toNat:Int)=((a&&&b:Nat):Int):=by
  have e:(BitVec.ofInt IntKind.i64.bits (a:Int)&&&BitVec.ofInt IntKind.i64.bits (b:Int)).toNat=(a&&&b):=by
   show (BitVec.ofInt 64 (a:Int)&&&BitVec.ofInt 64 (b:Int)).toNat=_
   rw[ofInt_i64,ofInt_i64,BitVec.toNat_and,BitVec.toNat_ofNat,BitVec.toNat_ofNat,Nat.mod_eq_of_lt (by omega),Nat.mod_eq_of_lt (by omega)]
  rw[e]
  exact wrap_i64 (by omega) (by omega)
 unfold pureBin
 simp only[if_true]
 rw[h]
theorem shr_nat (a m:Nat) (hm:m≤8):pureBin .shr (.int .i64 (a:Int)) (.int .u64 (m:Int))=some (.int .i64 ((a/2^m:Nat):Int)):=by
 have hb:min m IntKind.i64.bits=m:=Nat.min_eq_left (Nat.le_trans hm (by decide))
 have h:(a:Int).fdiv (2^min ((m:Int).toNat) IntKind.i64.bits)=((a/2^m:Nat):Int):=by
  rw[Int.toNat_natCast,hb]
  have:(2:Int)^m=((2^m:Nat):Int):=by simp
  rw[this]
  exact (Int.ofNat_fdiv a (2^m)).symm
 unfold pureBin
 simp only[show ¬((m:Int)<0) by omega,if_false]
 rw[h]
end Go.AL
namespace Go.AL
open Go Go.ChangeShapes Go.WideShapes Go.ChangeAt Go.RowKit
variable [GL]
set_option linter.unusedSectionVars false
theorem cell_back {w:World} {g i:Nat} {v:Value} (h:w.cell? ⟨g,i,none⟩=some v):allFrz w g i=some v:=by
 unfold World.cell? at h
 unfold allFrz
 split at h
 ·rename_i c _ _ heq
  simp only at heq
  simp at h
  rw[heq];exact h
 ·cases h
end Go.AL
namespace Go.AL
open Go Go.ChangeShapes Go.RowKit
section
variable {H:Type} {enc:TypeId×Value→H} {P:Program} {w:World} {base:Nat} {spare:Nat→Bool} {held:Bool}
theorem trodAll_five {t t' t'' t3 t4:TypeId} {args:Array Value} {ds:List (DataW H)} {ps:List MemPlace} (h:DataW.TrodAll enc P w base spare held [t,t',t'',t3,t4] args.toList ds ps):
  ∃v v' v'' v3 v4 d d' d'' d3 d4 p p' p'' p3 p4,args= #[v,v',v'',v3,v4]∧ds=[d,d',d'',d3,d4]∧ps=p++p'++p''++p3++p4∧DataW.Trod enc P w base spare held t v d p∧DataW.Trod enc P w base spare held t' v' d' p'∧DataW.Trod enc P w base spare held t'' v'' d'' p''∧DataW.Trod enc P w base spare held t3 v3 d3 p3∧DataW.Trod enc P w base spare held t4 v4 d4 p4:=by
 obtain ⟨v,vs,d,ds',p,q,hargs,rfl,rfl,hd,hrest⟩:=trodAll_cons h
 obtain ⟨v',vs',d',ds'',p',q',rfl,rfl,rfl,hd',hrest'⟩:=trodAll_cons hrest
 obtain ⟨v'',vs'',d'',ds''',p'',q'',rfl,rfl,rfl,hd'',hrest''⟩:=trodAll_cons hrest'
 obtain ⟨v3,vs3,d3,ds3,p3,q3,rfl,rfl,rfl,hd3,hrest3⟩:=trodAll_cons hrest''
 obtain ⟨v4,vs4,d4,ds4,p4,q4,rfl,rfl,rfl,hd4,hrest4⟩:=trodAll_cons hrest3
 obtain ⟨rfl,rfl,rfl⟩:=trodAll_nil hrest4
 exact ⟨v,v',v'',v3,v4,d,d',d'',d3,d4,p,p',p'',p3,p4,by cases args;simp_all,rfl,by simp,hd,hd',hd'',hd3,hd4⟩
theorem trodAll_mk5 {t t' t'' t3 t4:TypeId} {v v' v'' v3 v4:Value} {d d' d'' d3 d4:DataW H} {p p' p'' p3 p4:List MemPlace} (h:DataW.Trod enc P w base spare held t v d p) (h':DataW.Trod enc P w base spare held t' v' d' p')
  (h'':DataW.Trod enc P w base spare held t'' v'' d'' p'') (h3:DataW.Trod enc P w base spare held t3 v3 d3 p3) (h4:DataW.Trod enc P w base spare held t4 v4 d4 p4):DataW.TrodAll enc P w base spare held [t,t',t'',t3,t4] [v,v',v'',v3,v4] [d,d',d'',d3,d4] (p++(p'++(p''++(p3++p4)))):=⟨p,p'++(p''++(p3++p4)),h,trodAll_mk4 h' h'' h3 h4,rfl⟩
end
end Go.AL
namespace Go.AL
open Go Classical
variable [GL]
set_option linter.unusedSectionVars false
structure IterG (P:Program) (f:FuncId) (caps:List AV) (σ:Store) (N:Nat) (Need:Nat→Store→Prop) (arg:Nat→Store→List AV):Prop where
 mono:∀k τ τ',Need k τ→Store.sub τ τ'→Need k τ'∧arg k τ'=arg k τ
 run:∀(X:Nat→Prop) (l:Nat) (I:Nat→Store→Env X→Prop) (J:Store→Env X→Prop),(∀k τ E,k≤N→I k τ E→Need k τ)→
  (∀(k:Nat),k<N→∀(τ:Store) (E:Env X),I k τ E→AYields P l (arg k τ) τ E fun b τ' E'=>if b=true then I (k+1) τ' E' else J τ' E')→
  ∀(τ:Store) (E:Env X),I 0 τ E→Store.sub τ σ→
   ACallsY P f (.func (.yield l) [] []::caps.map AV.share) σ E fun _ σ' E'=>∃τ',Store.sub τ' σ'∧(I N τ' E'∨J τ' E')
theorem codeYK.rangeG {P:Program} {X:Nat→Prop} (hm:P.follows .mixedOrders=true) {st:List Tmp} {plans:List (Nat×Plan)} {n:Nat} {g:Operand} {ps:Array Tmp} {assign body:Code} {A:Slots} {σ:Store} {E:Env X} {Q:Exit→Env X→Slots→Store→Prop} {t:Tag Q}
  {f:FuncId} {caps:List AV} {N:Nat} {Need:Nat→Store→Prop} {arg:Nat→Store→List AV} (hi:IterG P f caps σ N Need arg) (hg:evalA A g= .func (.func f) [] caps) (hc:callable P f=true) (hlen:∀k τ,Need k τ→(arg k τ).length=ps.size) (hps:(ps.toList.all fun p=>decide (p<n))=true)
  (hok1:codeOkY st plans n assign=true) (hok2:codeOkY st plans n body=true) (Live:Nat→Store→Env X→Prop) (Dead:Code→Store→Env X→Prop) (τ0:Store) (h0:Live 0 τ0 E) (hs0:Store.sub τ0 σ)
  (hneed:∀k τ E,k≤N→Live k τ E→Need k τ)
  (hround:∀(k:Nat),k<N→∀(τ:Store) (E:Env X),Live k τ E→awpY P st plans n assign (thenY (awpY P st plans n body (roundQ (Live (k+1)) Dead)) fun _ _ _ _=>False) E (setPs (fun i=>(A i).share) ps.toList (arg k τ)) τ)
  (hdone:∀(τ:Store) (E:Env X) (σ':Store),Store.sub τ σ'→Live N τ E→Q .normal E A σ')
  (hdead:∀(c:Code) (τ:Store) (E:Env X) (σ':Store),Store.sub τ σ'→Dead c τ E→jumpQ Q c E A σ'):codeYK P n (.rangeFunc g ps assign body) Q E A σ t:=by
 refine AWpY.rangeK hg hc fun l hl=> ?_
 let L:Link:=⟨fun i=>(A i).share,n,ps,assign,body⟩
 refine (hi.run (AddX X l) l (fun k τ E'=>∃τ1 E0,Store.sub τ1 τ∧Live k τ1 E0∧E'=E0.link l L .ready none) (fun τ E'=>∃τ1 E0 c,Store.sub τ1 τ∧Dead c τ1 E0∧E'=E0.link l L .done (some c)) ?_ ?_ τ0 _ ⟨τ0,E,Store.sub_refl _,h0,rfl⟩ hs0).mono ?_
 ·rintro k τ E' hk ⟨τ1,E0,h1,h2,rfl⟩
  exact (hi.mono _ _ _ (hneed k τ1 E0 hk h2) h1).1
 ·rintro k hk τ E' ⟨τ1,E0,h1,h2,rfl⟩
  have hn:=hneed k τ1 E0 (Nat.le_of_lt hk) h2
  rw[(hi.mono _ _ _ hn h1).2]
  refine AYields.sub (AYields.of_round hl (L:=L) (hlen _ _ hn) (fun p hp=>by simpa using List.all_eq_true.1 hps p hp) (fun i=>share_plain _) ?_) h1
  refine (awpY_sound hm assign hok1 (hround k hk τ1 E0 h2)).mono fun e E2 A2 σ2 hh=> ?_
  cases e with
  |normal=>
   refine AWpY.mono (awpY_sound hm body hok2 hh) fun e E3 A3 σ3 h3=> ?_
   cases e with
   |normal=>obtain ⟨τ3,q1,q2⟩:=h3;exact ⟨τ3,E3,q1,q2,rfl⟩
   |ret=>obtain ⟨τ3,q1,q2⟩:=h3;exact ⟨τ3,E3,_,q1,q2,rfl⟩
   |exit id=>obtain ⟨τ3,q1,q2⟩:=h3;exact ⟨τ3,E3,_,q1,q2,rfl⟩
   |goto t=>obtain ⟨τ3,q1,q2⟩:=h3;exact ⟨τ3,E3,_,q1,q2,rfl⟩
   |_=>exact h3.elim
  |_=>exact hh
 ·rintro v σ' E' ⟨τ',h1,⟨τ1,E0,h2,h3,rfl⟩|⟨τ1,E0,c,h2,h3,rfl⟩⟩
  ·exact .inl ⟨E0,rfl,hdone τ1 E0 σ' (Store.sub_trans h2 h1) h3⟩
  ·exact .inr ⟨E0,c,rfl,hdead c τ1 E0 σ' (Store.sub_trans h2 h1) h3⟩
end Go.AL
namespace Go.AL
open Go Go.ChangeShapes Go.WideShapes Go.ChangeAt Go.RowKit
variable [GL]
set_option linter.unusedSectionVars false
structure Opens (P:Program) (t:TypeId) {α:Type} (f:α→List AV) (ok:α→Prop):Prop where
 go:∀ {H:Type} (enc:TypeId×Value→H) (W:World) (fuel:Nat) (cs:List Value) (x:DataW H×List MemPlace),
  DataW.trod enc P W 0 (fun _=>true) true fuel t cs=some x→∃a,ok a∧CellsR (VR (allFrz W)) (f a) cs
theorem CellsR.one {R:AV→Value→Prop} {c:AV} {u:Value} (h1:u.oneCell'=true) (h:R c u):CellsR R [c] [u]:=
 ⟨rfl,fun i u' hu=>by
  cases i with
  |zero=>simp at hu;subst hu;exact h1
  |succ i=>simp at hu,fun i c' u' hc hu=>by
  cases i with
  |zero=>simp at hc hu;subst hc hu;exact h
  |succ i=>simp at hc⟩
theorem Opens.int {P:Program} {t:TypeId} {k:IntKind} (ht:P.underlying t=some (.int k)):Opens P t (fun n:Int=>[.lit (.int k n)]) (fun n=>(Lit.int k n).wf=true):=by
 refine ⟨fun {H} enc W fuel cs x h=> ?_⟩
 obtain ⟨n,rfl,_,hw⟩:=DataW.trod_int ht h
 exact ⟨n,hw, .one rfl (.lit _)⟩
theorem Opens.i64 {P:Program} {t:TypeId} (ht:P.underlying t=some (.int .i64)):Opens P t (fun n:Int=>[.lit (.int .i64 n)]) (fun n=> -9223372036854775808≤n∧n≤9223372036854775807):=by
 refine ⟨fun {H} enc W fuel cs x h=> ?_⟩
 obtain ⟨n,hn,hc⟩:=(Opens.int ht).go enc W fuel cs x h
 refine ⟨n, ?_,hc⟩
 simpa[Lit.wf,IntKind.min,IntKind.max,IntKind.bits,IntKind.signed] using hn
theorem Opens.u8 {P:Program} {t:TypeId} (ht:P.underlying t=some (.int .u8)):Opens P t (fun b:UInt8=>[.lit (.int .u8 (b.toNat:Int))]) (fun _=>True):=by
 refine ⟨fun {H} enc W fuel cs x h=> ?_⟩
 obtain ⟨n,hn,hc⟩:=(Opens.int ht).go enc W fuel cs x h
 have:=bounds_u8 hn
 refine ⟨UInt8.ofNat n.toNat,trivial, ?_⟩
 have e:((UInt8.ofNat n.toNat).toNat:Int)=n:=by rw[UInt8.toNat_ofNat'];omega
 rw[e];exact hc
theorem Opens.bool {P:Program} {t:TypeId} (ht:P.underlying t=some .bool):Opens P t (fun b:Bool=>[.lit (.bool b)]) (fun _=>True):=by
 refine ⟨fun {H} enc W fuel cs x h=> ?_⟩
 obtain ⟨b,rfl,_⟩:=DataW.trod_bool ht h
 exact ⟨b,trivial, .one rfl (.lit _)⟩
theorem Opens.string {P:Program} {t:TypeId} (ht:P.underlying t=some .string):Opens P t (fun s:ByteArray=>[.lit (.string s)]) (fun s=>s.size≤maxLen):=by
 refine ⟨fun {H} enc W fuel cs x h=> ?_⟩
 obtain ⟨s,rfl,_,hs⟩:=DataW.trod_string ht h
 exact ⟨s,hs, .one rfl (.lit _)⟩
theorem flatten_at {β:Type} {sz:Nat} (hpos:0<sz) (L:List (List β)) (hL:∀x∈L,x.length=sz) (k:Nat):L.flatten[k]?=(L[k/sz]?).bind fun x=>x[k % sz]?:=by
 induction L generalizing k with
 |nil=>simp
 |cons x L ih=>
  have hx:=hL x (by simp)
  have ih:=ih (fun y hy=>hL y (by simp[hy]))
  rw[List.flatten_cons,List.getElem?_append]
  by_cases h:k<sz
  ·rw[if_pos (by omega),Nat.div_eq_of_lt h,Nat.mod_eq_of_lt h];rfl
  ·rw[if_neg (by omega),hx,ih]
   have e:k=k-sz+sz:=by omega
   have e1:k/sz=(k-sz)/sz+1:=by rw[e,Nat.add_div_right _ hpos];simp
   have e2:k % sz=(k-sz) % sz:=by rw[e,Nat.add_mod_right];simp
   rw[e1,e2];rfl
theorem flatten_length {β:Type} {sz:Nat} (L:List (List β)) (hL:∀x∈L,x.length=sz):L.flatten.length=L.length*sz:=by
 induction L with
 |nil=>simp
 |cons x L ih=>rw[List.flatten_cons,List.length_append,hL x (by simp),ih (fun y hy=>hL y (by simp[hy])),List.length_cons,Nat.succ_mul];omega
theorem exists_row {β:Type} {Q:Nat→β→Prop} (n:Nat) (h:∀i,i<n→∃a,Q i a):∃l:List β,l.length=n∧∀i a,l[i]?=some a→Q i a:=by
 induction n with
 |zero=>exact ⟨[],rfl,by simp⟩
 |succ n ih=>
  obtain ⟨l,h1,h2⟩:=ih fun i hi=>h i (by omega)
  obtain ⟨a,ha⟩:=h n (by omega)
  refine ⟨l++[a],by simp[h1],fun i b hb=> ?_⟩
  rw[List.getElem?_append] at hb
  split at hb
  ·exact h2 i b hb
  ·rename_i hlt
   have:i-l.length=0:=by
    rcases Nat.eq_zero_or_pos (i-l.length) with h|h
    ·exact h
    ·rw[List.getElem?_eq_none (by simp;omega)] at hb;cases hb
   rw[this] at hb
   simp at hb;subst hb
   rwa[show i=n by omega]
theorem Opens.slice {P:Program} {t e:TypeId} {α:Type} {f:α→List AV} {ok:α→Prop} {sz:Nat} (ht:P.underlying t=some (.slice e)) (hc:P.cellsOf e=sz) (hpos:0<sz) (he:Opens P e f ok) (g:α→AV) (hg:∀a,(g a).cells=f a) (hsz:∀a,(f a).length=sz):
  Opens P t (fun l:List α=>[.list false sz (l.map g)]) (fun l=>l.length≤maxLen∧∀a∈l,ok a):=by
 refine ⟨fun {H} enc W fuel cs x h=> ?_⟩
 rcases DataW.trod_slice ht h with ⟨rfl,_⟩|⟨a,len,cap,elems,rest,n,_,rfl,_,hb,hl,hm,hlen,hel,hsp,_⟩
 ·exact ⟨[],⟨Nat.zero_le _,by simp⟩, .one rfl (.nil ..)⟩
 have each:∀i,i<len→∃q:α×List Value,ok q.1∧q.2.length=sz∧CellsR (VR (allFrz W)) (f q.1) q.2∧∀j,j<sz→W.cell? ((a.add (i*sz)).add j)=q.2[j]?:=by
  intro i hi
  have hE:=hel i hi
  rw[hc,List.getElem?_eq_getElem (by omega),Option.bind_eq_some_iff] at hE
  obtain ⟨c1,hc1,hy⟩:=hE
  obtain ⟨q,hq1,hq2⟩:=he.go enc W n c1 _ hy
  obtain ⟨_,w2,w3⟩:=World.cells?_some hc1
  exact ⟨(q,c1),hq1,w2,hq2,w3⟩
 obtain ⟨l,hll,hQ⟩:=exists_row len each
 have hok:∀q∈l,ok q.1∧q.2.length=sz∧CellsR (VR (allFrz W)) (f q.1) q.2:=fun q hq=>by
  obtain ⟨i,hi⟩:=List.getElem?_of_mem hq
  have:=hQ i q hi
  exact ⟨this.1,this.2.1,this.2.2.1⟩
 refine ⟨l.map (·.1),⟨by rw[List.length_map,hll];exact Nat.le_trans hl hm,fun b hb=> ?_⟩, .one rfl ?_⟩
 ·obtain ⟨q,hq,rfl⟩:=List.mem_map.1 hb
  exact (hok q hq).1
 by_cases hcap:cap=0
 ·subst hcap
  have h0:len=0:=by omega
  subst h0
  have:l=[]:=List.eq_nil_of_length_eq_zero hll
  subst this
  exact .void sz a
 have hspot:a.spot=none:=by
  have first:∃v,W.cell? a=some v:=by
   by_cases h0:0<len
   ·have h1:=hel 0 h0
    rw[hc,List.getElem?_eq_getElem (by omega),Option.bind_eq_some_iff] at h1
    obtain ⟨c1,hc1,_⟩:=h1
    obtain ⟨_,w2,w3⟩:=World.cells?_some hc1
    have:=w3 0 hpos
    rw[List.getElem?_eq_getElem (by omega)] at this
    have e0:(a.add (0*sz)).add 0=a:=by simp[Addr.add]
    rw[e0] at this;exact ⟨_,this⟩
   ·obtain ⟨r1,r2⟩:=hsp rfl
    have h1:=r2 0 (by omega)
    have hl0:len=0:=by omega
    rw[hc,List.getElem?_eq_getElem (by omega),Option.bind_eq_some_iff] at h1
    obtain ⟨c1,hc1,_⟩:=h1
    obtain ⟨_,w2,w3⟩:=World.cells?_some hc1
    have:=w3 0 hpos
    rw[List.getElem?_eq_getElem (by omega)] at this
    have e0:(a.add ((len+0)*sz)).add 0=a:=by simp[Addr.add,hl0]
    rw[e0] at this;exact ⟨_,this⟩
  obtain ⟨v,hv⟩:=first
  unfold World.cell? at hv
  split at hv
  ·split at hv
   ·cases hv
   ·rename_i hs;simpa using hs
  ·cases hv
 obtain ⟨b,off,spot⟩:=a
 simp only at hspot;subst hspot
 have flen:∀y∈l.map (fun q=>f q.1),y.length=sz:=fun y hy=>by
  obtain ⟨q,_,rfl⟩:=List.mem_map.1 hy;exact hsz _
 have vlen:∀y∈l.map (fun q=>q.2),y.length=sz:=fun y hy=>by
  obtain ⟨q,hq,rfl⟩:=List.mem_map.1 hy;exact (hok q hq).2.1
 have eflat:flat ((l.map (·.1)).map g)=(l.map fun q=>f q.1).flatten:=by
  unfold flat
  rw[List.flatMap_def,List.map_map,List.map_map]
  congr 1
  apply List.map_congr_left
  intro q _
  exact hg q.1
 refine .list false sz _ b off len cap (l.map (·.2)).flatten (by simp;omega) hl (fun v hv=> ?_) ?_ (fun k u hu=> ?_) fun k c u hcc hu=> ?_
 ·obtain ⟨q,_,rfl⟩:=List.mem_map.1 hv
  rw[hg];exact hsz _
 ·rw[eflat,flatten_length _ flen,flatten_length _ vlen];simp
 ·rw[flatten_at hpos _ vlen,Option.bind_eq_some_iff] at hu
  obtain ⟨cs',h1,h2⟩:=hu
  rw[List.getElem?_map] at h1
  cases hli:l[k/sz]? with
  |none=>rw[hli] at h1;cases h1
  |some q=>
   rw[hli] at h1
   simp only[Option.map_some,Option.some.injEq] at h1;subst h1
   obtain ⟨q1,q2,q3,q4⟩:=hQ _ q hli
   have hj:k % sz<sz:=Nat.mod_lt _ hpos
   have h4:=q4 _ hj
   rw[h2,Addr.add_lit,Addr.add_lit] at h4
   have e:off+k/sz*sz+k % sz=off+k:=by have:=Nat.div_add_mod k sz;rw[Nat.mul_comm] at this;omega
   rw[e] at h4
   exact ⟨cell_back h4,q3.2.1 _ _ h2⟩
 ·rw[eflat,flatten_at hpos _ flen,Option.bind_eq_some_iff] at hcc
  rw[flatten_at hpos _ vlen,Option.bind_eq_some_iff] at hu
  obtain ⟨fs,h1,h2⟩:=hcc
  obtain ⟨cs',h3,h4⟩:=hu
  rw[List.getElem?_map] at h1 h3
  cases hli:l[k/sz]? with
  |none=>rw[hli] at h1;cases h1
  |some q=>
   rw[hli] at h1 h3
   simp only[Option.map_some,Option.some.injEq] at h1 h3;subst h1 h3
   exact (hok q (List.mem_of_getElem? hli)).2.2.2.2 _ _ _ h2 h4
structure OpensF (P:Program) (total off:Nat) (fs:List Field) {α:Type} (f:α→List AV) (ok:α→Prop):Prop where
 go:∀ {H:Type} (enc:TypeId×Value→H) (W:World) (fuel:Nat) (cs:List Value),cs.length=total→
  (∀(i:Nat) (fd:Field),fs[i]?=some fd→∃x,DataW.trod enc P W 0 (fun _=>true) true fuel fd.type ((cs.drop fd.offset).take (P.cellsOf fd.type))=some x)→∃a,ok a∧CellsR (VR (allFrz W)) (f a) (cs.drop off)
theorem OpensF.nil {P:Program} {total:Nat} :OpensF P total total [] (fun _:Unit=>[]) (fun _=>True):=by
 refine ⟨fun {H} enc W fuel cs hl _=> ?_⟩
 refine ⟨(),trivial, ?_⟩
 rw[List.drop_of_length_le (by omega)]
 exact ⟨rfl,by simp,by simp⟩
theorem OpensF.cons {P:Program} {total off k:Nat} {fd:Field} {fs:List Field} {α β:Type} {f:α→List AV} {ok:α→Prop} {g:β→List AV} {ok':β→Prop} (ho:fd.offset=off) (hk:P.cellsOf fd.type=k) (_hle:off+k≤total)
  (h1:Opens P fd.type f ok) (h2:OpensF P total (off+k) fs g ok'):OpensF P total off (fd::fs) (fun x:α×β=>f x.1++g x.2) (fun x=>ok x.1∧ok' x.2):=by
 refine ⟨fun {H} enc W fuel cs hl h=> ?_⟩
 obtain ⟨x,hx⟩:=h 0 fd rfl
 obtain ⟨a,ha,hca⟩:=h1.go enc W fuel _ x hx
 obtain ⟨b,hb,hcb⟩:=h2.go enc W fuel cs hl fun i fd' hi=>h (i+1) fd' hi
 refine ⟨(a,b),⟨ha,hb⟩, ?_⟩
 rw[ho,hk] at hca
 have e:cs.drop off=(cs.drop off).take k++cs.drop (off+k):=by
  rw[←List.drop_drop,List.take_append_drop]
 rw[e]
 exact hca.append hcb
theorem Opens.struct {P:Program} {t:TypeId} {fs:Array Field} {total:Nat} {α:Type} {f:α→List AV} {ok:α→Prop} (ht:P.underlying t=some (.struct fs)) (hc:P.cellsOf t=total) (h:OpensF P total 0 fs.toList f ok):Opens P t f ok:=by
 refine ⟨fun {H} enc W fuel cs x hx=> ?_⟩
 obtain ⟨xs,n,_,_,hl,hxs,hf⟩:=DataW.trod_struct ht hx
 have:=h.go enc W n cs (by omega) fun i fd hi=>by
  have hi':fs[i]?=some fd:=by simpa using hi
  have hlt:i<xs.length:=by rw[hxs];exact (Array.getElem?_eq_some_iff.1 hi').1
  exact ⟨_,by rw[hf i fd hi',List.getElem?_eq_getElem hlt]⟩
 simpa using this
theorem Opens.by {P:Program} {t:TypeId} {α β:Type} {f:α→List AV} {ok:α→Prop} {g:β→List AV} {ok':β→Prop} (h:Opens P t f ok) (m:α→β) (hm:∀a,ok a→ok' (m a)∧g (m a)=f a):Opens P t g ok':=by
 refine ⟨fun {H} enc W fuel cs x hx=> ?_⟩
 obtain ⟨a,ha,hc⟩:=h.go enc W fuel cs x hx
 exact ⟨m a,(hm a ha).1,by rw[(hm a ha).2];exact hc⟩
theorem Opens.arg {P:Program} {t:TypeId} {α:Type} {f:α→List AV} {ok:α→Prop} (h:Opens P t f ok) (g:α→AV) (hg:∀a,f a=[g a]) {H:Type} {enc:TypeId×Value→H} {W:World} {v:Value} {d:DataW H} {p:List MemPlace} (hv:v.cells= #[v])
  (hx:DataW.Trod enc P W 0 (fun _=>true) true t v d p):∃a,ok a∧VR (allFrz W) (g a) v:=by
 obtain ⟨fuel,hf⟩:=hx
 obtain ⟨a,ha,hc⟩:=h.go enc W fuel _ _ hf
 refine ⟨a,ha,hc.2.2 0 _ _ ?_ ?_⟩
 ·rw[hg];rfl
 ·rw[hv];rfl
theorem Opens.args {P:Program} {t:TypeId} {α:Type} {f:α→List AV} {ok:α→Prop} (h:Opens P t f ok) {H:Type} {enc:TypeId×Value→H} {W:World} {v:Value} {us:Array Value} {d:DataW H} {p:List MemPlace} (hv:v= .agg us)
  (hx:DataW.Trod enc P W 0 (fun _=>true) true t v d p):∃a,ok a∧VR (allFrz W) (.agg (f a)) v:=by
 subst hv
 obtain ⟨fuel,hf⟩:=hx
 obtain ⟨a,ha,hc⟩:=h.go enc W fuel _ _ hf
 refine ⟨a,ha, .agg _ _ (by simpa[Value.cells] using hc.1) (fun i u hu=>hc.2.1 i u (by simpa[Value.cells] using hu)) fun i c u h1 h2=>hc.2.2 i c u h1 (by simpa[Value.cells] using h2)⟩
end Go.AL
namespace Go.AL
open Go
variable [GL]
set_option linter.unusedSectionVars false
theorem ite_free {α:Type} {p q:Nat} (x:α) (y:Option α):(if p=q then some x else y)=none↔¬p=q∧¬q=p∧y=none:=by
 by_cases h:p=q
 ·simp[h]
 ·simp[h,Ne.symm h]
@[simp] theorem aField_agg (P:Program) (t:TypeId) (f:Nat) (cs:List AV):aField P t f (.agg cs)=match tField P t f with|some (off,ft)=>cutAV P ft cs off|none=>none:=nr (by
 unfold aField;cases tField P t f<;>rfl)
theorem upd_back {σ:Store} {q:Nat} {x:List AV} (h:σ q=some x):σ.upd q x=σ:=by
 funext k;simp only[Store.upd];split
 ·rename_i h';subst h';exact h.symm
 ·rfl
theorem del_upd_new {σ:Store} {p:Nat} {x:List AV} (hp:σ p=none):(σ.upd p x).del p=σ:=by
 refine Store.ext2 (fun q=> ?_) (fun g=>by simp)
 by_cases h:q=p
 ·simp[h,hp]
 ·simp[h]
end Go.AL
namespace Go.AL
open Go
variable [GL]
set_option linter.unusedSectionVars false
def noGotoA (Q:Exit→Slots→Store→Prop):Exit→Slots→Store→Prop
 | .goto _=>fun _ _=>False
 |e=>Q e
theorem AWp.scope {P:Program} {n:Nat} {c:Code} {Q:Exit→Slots→Store→Prop} {A:Slots} {σ:Store} (h:AWp P n c (noGotoA Q) A σ):AWp P n (.scope c) Q A σ:=by
 intro D G a w hR
 refine wp_scope_straight (wp_mono (h D G a w hR) fun e a' w' hl=> ?_)
 cases e with
 |goto l=>obtain ⟨_,_,_,hf,_⟩:=hl;exact hf.elim
 |_=>exact hl
theorem codeK.scope {P:Program} (hm:P.follows .mixedOrders=true) {st:List Tmp} {plans:List (Nat×Plan)} {n:Nat} {c:Code} {Q:Exit→Slots→Store→Prop} {A:Slots} {σ:Store} {t:Tag Q}
  (hok:codeOk st plans n c=true) (h:awp P st plans n c (noGotoA Q) A σ):codeK P n (.scope c) Q A σ t:=AWp.scope (awp_sound hm c hok h)
@[simp] theorem noGoto_normal (Q:Exit→Slots→Store→Prop) (A:Slots) (σ:Store):noGotoA Q .normal A σ=Q .normal A σ:=nr rfl
@[simp] theorem noGoto_ret (Q:Exit→Slots→Store→Prop) (A:Slots) (σ:Store):noGotoA Q .ret A σ=Q .ret A σ:=nr rfl
@[simp] theorem noGoto_exit (Q:Exit→Slots→Store→Prop) (l:Nat) (A:Slots) (σ:Store):noGotoA Q (.exit l) A σ=Q (.exit l) A σ:=nr rfl
@[simp] theorem noGoto_goto (Q:Exit→Slots→Store→Prop) (l:Nat) (A:Slots) (σ:Store):noGotoA Q (.goto l) A σ=False:=nr rfl
end Go.AL
