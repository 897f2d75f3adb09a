/-
 The abstract-state logic (AL): values of Go slices that are only appended to are lists by value; mutable objects lie in a small store.
 This text: abstract values, how they stand to the model's values in a world, and how that is kept.
-/
import Derived.Calls
import Derived.Below
import Derived.Laws.AppendOwn
import Derived.Laws.StructEq
import Derived.ChangeKeysEq
import Derived.Laws.BytesArg
import Derived.Laws.Cover4
set_option linter.unusedSimpArgs false
set_option linter.unusedVariables false
set_option maxRecDepth 8000
set_option maxHeartbeats 8000000
namespace Go.AL
open Go
inductive AV where
 |top
 |lit (v:Value)
 |list (own:Bool) (sz:Nat) (vs:List AV)
 |fptr (cs:List AV)
 |func (fn:Fn) (first captured:List AV)
 |iface (t:TypeId) (v:AV)
 |agg (cells:List AV)
 |tuple (vs:List AV)
 |row (p n:Nat)
 deriving Inhabited
def AV.cells:AV→List AV
 | .agg cs=>cs
 |v=>[v]
def flat (vs:List AV):List AV:=vs.flatMap AV.cells
abbrev Frz:=Nat→Nat→Option Value
inductive VR (F:Frz):AV→Value→Prop
 |top (v:Value):VR F .top v
 |lit (v:Value):VR F (.lit v) v
 |nil (own:Bool) (sz:Nat):VR F (.list own sz []) (.slice none 0 0)
 |void (sz:Nat) (a:Addr):VR F (.list false sz []) (.slice (some a) 0 0)
 |list (own:Bool) (sz:Nat) (vs:List AV) (g off n cap:Nat) (us:List Value) (hn:n=vs.length) (hc:n≤cap) (hw:∀v∈vs,v.cells.length=sz)
  (hl:us.length=(flat vs).length) (hF:∀(i:Nat) (u:Value),us[i]?=some u→F g (off+i)=some u∧u.oneCell'=true)
  (hv:∀(i:Nat) (c:AV) (u:Value),(flat vs)[i]?=some c→us[i]?=some u→VR F c u):VR F (.list own sz vs) (.slice (some ⟨g,off,none⟩) n cap)
 |fptr (cs:List AV) (g off:Nat) (us:List Value) (hl:us.length=cs.length) (hF:∀(i:Nat) (u:Value),us[i]?=some u→F g (off+i)=some u∧u.oneCell'=true)
  (hv:∀(i:Nat) (c:AV) (u:Value),cs[i]?=some c→us[i]?=some u→VR F c u):VR F (.fptr cs) (.pointer (some ⟨g,off,none⟩))
 |func (fn:Fn) (fs cs:List AV) (ufs ucs:Array Value) (h1:fs.length=ufs.size) (h2:cs.length=ucs.size)
  (h3:∀(i:Nat) (c:AV) (u:Value),fs[i]?=some c→ufs[i]?=some u→VR F c u) (h4:∀(i:Nat) (c:AV) (u:Value),cs[i]?=some c→ucs[i]?=some u→VR F c u):VR F (.func fn fs cs) (.func fn ufs ucs)
 |iface (t:TypeId) (a:AV) (v:Value) (h:VR F a v):VR F (.iface t a) (.iface t v)
 |agg (cs:List AV) (us:Array Value) (hl:cs.length=us.size) (h1:∀(i:Nat) (u:Value),us[i]?=some u→u.oneCell'=true)
  (hv:∀(i:Nat) (c:AV) (u:Value),cs[i]?=some c→us[i]?=some u→VR F c u):VR F (.agg cs) (.agg us)
 |tuple (cs:List AV) (us:Array Value) (hl:cs.length=us.size)
  (hv:∀(i:Nat) (c:AV) (u:Value),cs[i]?=some c→us[i]?=some u→VR F c u):VR F (.tuple cs) (.tuple us)
 |row (p n cap:Nat) (hc:n≤cap):VR F (.row p n) (.slice (some ⟨p,0,none⟩) n cap)
theorem VR.mono {F F':Frz} (hF:∀g i u,F g i=some u→F' g i=some u) {a:AV} {v:Value} (h:VR F a v):VR F' a v:=by
 induction h with
 |top v=>exact .top v
 |lit v=>exact .lit v
 |nil o s=>exact .nil o s
 |void s a=>exact .void s a
 |list own sz vs g off n cap us hn hc hw hl h1 _ ih=>exact .list own sz vs g off n cap us hn hc hw hl (fun i u hu=>⟨hF _ _ _ (h1 i u hu).1,(h1 i u hu).2⟩) ih
 |fptr cs g off us hl h1 _ ih=>exact .fptr cs g off us hl (fun i u hu=>⟨hF _ _ _ (h1 i u hu).1,(h1 i u hu).2⟩) ih
 |func fn fs cs ufs ucs h1 h2 _ _ ih1 ih2=>exact .func fn fs cs ufs ucs h1 h2 ih1 ih2
 |iface t a v _ ih=>exact .iface t a v ih
 |agg cs us hl h1 _ ih=>exact .agg cs us hl h1 ih
 |tuple cs us hl _ ih=>exact .tuple cs us hl ih
 |row p n cap hc=>exact .row p n cap hc
inductive Place where
 |slot (i j:Nat)
 |obj (o j:Nat)
 |arg (i j:Nat)
 |acc (j:Nat)
 deriving DecidableEq
structure Ghost where
 F:Frz
 S:Nat→Option (Nat×Nat×Place)
abbrev Store:=Int→Option (List AV)
def mkey (g:Nat):Int:=Int.negSucc g
@[simp] theorem mkey_inj {g h:Nat} :mkey g=mkey h↔g=h:=by simp[mkey]
@[simp] theorem mkey_ne (g p:Nat):¬mkey g=(p:Int):=by intro h;cases h
@[simp] theorem ne_mkey (g p:Nat):¬(p:Int)=mkey g:=by intro h;cases h
def Own1 (G:Ghost) (D:Nat→Prop) (π:Place):AV→Value→Prop
 | .list true sz _, .slice (some ad) n cap=>cap=0∨(D ad.block∧∃z,G.S ad.block=some (ad.off+n*sz,z,π)∧ad.off+cap*sz≤z∧cap≤maxLen)
 |_,_=>True
def OwnAt (G:Ghost) (D:Nat→Prop) (r:Nat→Place):AV→Value→Prop
 | .agg cs, .agg us=>∀j c u,cs[j]?=some c→us[j]?=some u→Own1 G D (r j) c u
 | .tuple cs, .tuple us=>∀j c u,cs[j]?=some c→us[j]?=some u→Own1 G D (r j) c u
 |a,v=>Own1 G D (r 0) a v
def RowAt (w:World) (g:Nat) (cur:Array Value) (e:TypeId):Prop:=∃fz:Nat×Nat,w.heap[g]?=some (.cells cur e fz)∧(fz=(0,0)∨cur.size≤fz.1)
theorem RowAt.of {w:World} {g:Nat} {cur:Array Value} {e:TypeId} (h:w.heap[g]?=some (.cells cur e (0,0))):RowAt w g cur e:=⟨_,h, .inl rfl⟩
theorem RowAt.keep {w w':World} {g:Nat} {cur:Array Value} {e:TypeId} (h:RowAt w g cur e) (k:∀f,w.heap[g]?=some (.cells cur e f)→w'.heap[g]?=some (.cells cur e f)):RowAt w' g cur e:=
 let ⟨f,h1,h2⟩:=h;⟨f,k f h1,h2⟩
theorem RowAt.same {w w':World} {g:Nat} {cur:Array Value} {e:TypeId} (h:RowAt w g cur e) (k:w'.heap[g]?=w.heap[g]?):RowAt w' g cur e:=h.keep fun _ q=>k.trans q
class GL where
 tab:Nat→Option (List AV)
 vars:Nat→Option (Array Value):=fun _=>none
variable [GL]
set_option linter.unusedSectionVars false
def iterA (s:ByteArray) (pos:Nat):List AV:=[.lit (.string s), .lit (.int .i64 pos)]
def rawA (T:TypeId) (cur:Array Value):List AV:= .tuple []:: .lit (.int .u64 T)::cur.toList.map .lit
def mapA (kvs:List (Value×AV)):List AV:= .top::kvs.flatMap fun x=>[.lit x.1,x.2]
def miterA (m n:Nat) (seen:List Nat):List AV:= .tuple []:: .lit (.map (some m)):: .lit (.int .u64 n)::seen.map fun (i:Nat)=> .lit (.int .u64 i)
inductive OthR (F:Frz):List AV→Obj→Prop
 |iter (s:ByteArray) (pos:Nat):OthR F (iterA s pos) (.stringIter s pos)
 |miter (m n:Nat) (seen:List Nat) (h:∀i∈seen,i<n):OthR F (miterA m n seen) (.mapIter (some m) n seen.toArray n)
 |raw (T:TypeId) (cur:Array Value):OthR F (rawA T cur) (.cells cur T (0,0))
 |map (kvs:List (Value×AV)) (es:Array MapEntry) (clock:Nat) (hl:kvs.length=es.size) (hc:clock=es.size)
  (h:∀(i:Nat) (kv:Value×AV) (e:MapEntry),kvs[i]?=some kv→es[i]?=some e→e.key=kv.1∧VR F kv.2 e.val∧e.born=i):OthR F (mapA kvs) (.map es clock)
theorem OthR.mono {F F':Frz} (hF:∀g i u,F g i=some u→F' g i=some u) {cs:List AV} {ob:Obj} (h:OthR F cs ob):OthR F' cs ob:=by
 cases h with
 |iter s pos=>exact .iter s pos
 |miter m n seen h=>exact .miter m n seen h
 |raw T cur=>exact .raw T cur
 |map kvs es clock hl hc h=>exact .map kvs es clock hl hc fun i kv e h1 h2=>let ⟨a,b,c⟩:=h i kv e h1 h2;⟨a,b.mono hF,c⟩
def Obj.oth:Obj→Prop
 | .cells .. =>False
 |_=>True
theorem OthR.no_loop {F:Frz} {cs:List AV} {r:Loop} (h:OthR F cs (.loop r)):False:=by cases h
def Idle (G:Ghost) (σ:Store) (g:Nat):Prop:=σ g=none∧G.S g=none∧∀i,G.F g i=none
def Quiet (G:Ghost) (σ:Store) (g:Nat):Prop:=σ g=none∧σ (mkey g)=none∧G.S g=none
structure WR (D:Nat→Prop) (G:Ghost) (σ:Store) (w:World):Prop where
 frz:∀g i u,G.F g i=some u→∃cur e fz,w.heap[g]?=some (.cells cur e fz)∧cur[i]?=some u
 own:∀(g:Nat) n z π,G.S g=some (n,z,π)→σ g=none∧(∃cur e,RowAt w g cur e∧cur.size=z)∧∀i,n≤i→G.F g i=none
 obj:∀(o:Nat) cs,σ o=some cs→D o∧G.S o=none∧(∀i,G.F o i=none)∧∃cur e,w.heap[o]?=some (.cells cur e (0,0))∧cs.length≤cur.size∧
  ∀i c u,cs[i]?=some c→cur[i]?=some u→u.oneCell'=true∧VR G.F c u∧Own1 G D (.obj o i) c u
 laid:∀g cs,GL.tab g=some cs→VR G.F (.fptr cs) (.pointer (some ⟨g,0,none⟩))
 oth:∀(g:Nat) cs,σ (mkey g)=some cs→D g∧Idle G σ g∧∃ob,w.heap[g]?=some ob∧OthR G.F cs ob
 vars:∀(g:Nat) cs,GL.vars g=some cs→Quiet G σ g∧∃T fz,w.heap[g]?=some (.cells cs T fz)
theorem othKeep {D:Nat→Prop} {G G':Ghost} {σ σ':Store} {w w':World} (h:WR D G σ w) (hF:∀g i u,G.F g i=some u→G'.F g i=some u) (hσ:∀g,σ' (mkey g)=σ (mkey g))
  (hk:∀(k:Nat) ob,Idle G σ k→w.heap[k]?=some ob→w'.heap[k]?=some ob∧Idle G' σ' k):∀(g:Nat) cs,σ' (mkey g)=some cs→D g∧Idle G' σ' g∧∃ob,w'.heap[g]?=some ob∧OthR G'.F cs ob:=
 fun g cs hg=>let ⟨a,i,ob,b,c⟩:=h.oth g cs (by rw[←hσ];exact hg);let ⟨q1,q2⟩:=hk g ob i b;⟨a,q2,ob,q1,c.mono hF⟩
theorem varKeep {D:Nat→Prop} {G G':Ghost} {σ σ':Store} {w w':World} (h:WR D G σ w) (hk:∀(k:Nat) ob,Quiet G σ k→w.heap[k]?=some ob→w'.heap[k]?=some ob∧Quiet G' σ' k):
  ∀(g:Nat) cs,GL.vars g=some cs→Quiet G' σ' g∧∃T fz,w'.heap[g]?=some (.cells cs T fz):=
 fun g cs hg=>let ⟨i,T,fz,b⟩:=h.vars g cs hg;let ⟨q1,q2⟩:=hk g _ i b;⟨q2,T,fz,q1⟩
theorem WR.oth_idle {D:Nat→Prop} {G:Ghost} {σ:Store} {w:World} (h:WR D G σ w) {g:Nat} {cs:List AV} (hg:σ (mkey g)=some cs):Idle G σ g:=(h.oth g cs hg).2.1
theorem WR.oth_obj {D:Nat→Prop} {G:Ghost} {σ:Store} {w:World} (h:WR D G σ w) {g:Nat} {cs cs':List AV} (hg:σ (mkey g)=some cs) (ho:σ g=some cs'):False:=by
 have:=(h.oth_idle hg).1;rw[ho] at this;cases this
theorem WR.oth_own {D:Nat→Prop} {G:Ghost} {σ:Store} {w:World} (h:WR D G σ w) {g:Nat} {cs:List AV} (hg:σ (mkey g)=some cs) {x:Nat×Nat×Place} (ho:G.S g=some x):False:=by
 have:=(h.oth_idle hg).2.1;rw[ho] at this;cases this
theorem WR.fresh_idle {D:Nat→Prop} {G:Ghost} {σ:Store} {w:World} (h:WR D G σ w):Idle G σ w.heap.size:=by
 refine ⟨?_, ?_,fun i=> ?_⟩
 ·cases hs:σ w.heap.size with
  |none=>rfl
  |some cs=>obtain ⟨_,_,_,c,e',h4,_⟩:=h.obj _ cs hs;have:=(Array.getElem?_eq_some_iff.1 h4).1;omega
 ·cases hs:G.S w.heap.size with
  |none=>rfl
  |some x=>obtain ⟨_,⟨c,e',⟨_,h2,_⟩,_⟩,_⟩:=h.own _ x.1 x.2.1 x.2.2 hs;have:=(Array.getElem?_eq_some_iff.1 h2).1;omega
 ·cases hF:G.F w.heap.size i with
  |none=>rfl
  |some u=>obtain ⟨c,e',fz,h1,_⟩:=h.frz _ i u hF;have:=(Array.getElem?_eq_some_iff.1 h1).1;omega
abbrev Slots:=Nat→AV
def upd (A:Slots) (i:Nat) (v:AV):Slots:=fun j=>if j=i then v else A j
def Store.upd (σ:Store) (o:Nat) (cs:List AV):Store:=fun p=>if p=(o:Int) then some cs else σ p
def Store.put (σ:Store) (g:Nat) (cs:List AV):Store:=fun p=>if p=mkey g then some cs else σ p
@[simp] theorem upd_mkey (σ:Store) (o g:Nat) (cs:List AV):(σ.upd o cs) (mkey g)=σ (mkey g):=by simp[Store.upd]
@[simp] theorem put_nat (σ:Store) (o g:Nat) (cs:List AV):(σ.put g cs) (o:Int)=σ o:=by simp[Store.put]
@[simp] theorem put_mkey (σ:Store) (h g:Nat) (cs:List AV):(σ.put g cs) (mkey h)=if h=g then some cs else σ (mkey h):=by simp[Store.put]
@[simp] theorem upd_nat (σ:Store) (o p:Nat) (cs:List AV):(σ.upd o cs) (p:Int)=if p=o then some cs else σ p:=by simp[Store.upd,Int.natCast_inj]
structure Rel (D:Nat→Prop) (n:Nat) (G:Ghost) (A:Slots) (σ:Store) (a:Act) (w:World):Prop where
 defers:a.defers=[]
 size:a.tmps.size=n
 val:∀i,VR G.F (A i) (a.tmps.getD i undef)
 own:∀i,OwnAt G D (.slot i) (A i) (a.tmps.getD i undef)
 world:WR D G σ w
 fresh:∀k,w.heap.size≤k→D k
structure Ext (D:Nat→Prop) (G:Ghost) (w:World) (G':Ghost) (w':World):Prop where
 os:w'.os=w.os
 tape:w'.tape=w.tape
 output:w'.output=w.output
 size:w.heap.size≤w'.heap.size
 frz:∀g i u,G.F g i=some u→G'.F g i=some u
 block:∀k,¬D k→w'.heap[k]?=w.heap[k]?∧G'.S k=G.S k∧G'.F k=G.F k
theorem Ext.refl (D:Nat→Prop) (G:Ghost) (w:World):Ext D G w G w:=⟨rfl,rfl,rfl,Nat.le_refl _,fun _ _ _ h=>h,fun _ _=>⟨rfl,rfl,rfl⟩⟩
theorem Ext.trans {D:Nat→Prop} {G1 G2 G3:Ghost} {w1 w2 w3:World} (h:Ext D G1 w1 G2 w2) (k:Ext D G2 w2 G3 w3):Ext D G1 w1 G3 w3:=
 ⟨k.os.trans h.os,k.tape.trans h.tape,k.output.trans h.output,Nat.le_trans h.size k.size,fun _g _i _u hu=>k.frz _ _ _ (h.frz _ _ _ hu),
  fun b hb=>⟨(k.block b hb).1.trans (h.block b hb).1,(k.block b hb).2.1.trans (h.block b hb).2.1,(k.block b hb).2.2.trans (h.block b hb).2.2⟩⟩
theorem Ext.wide {D D':Nat→Prop} {G1 G2:Ghost} {w1 w2:World} (h:Ext D G1 w1 G2 w2) (hD:∀k,D k→D' k):Ext D' G1 w1 G2 w2:=
 ⟨h.os,h.tape,h.output,h.size,h.frz,fun k hk=>h.block k (fun hd=>hk (hD k hd))⟩
theorem Own1.wide {G:Ghost} {D D':Nat→Prop} {π:Place} {a:AV} {v:Value} (h:Own1 G D π a v) (hD:∀k,D k→D' k):Own1 G D' π a v:=by
 unfold Own1 at*
 split at h
 ·rcases h with h|h
  ·exact .inl h
  ·exact .inr ⟨hD _ h.1,h.2⟩
 ·trivial
theorem OwnAt.wide {G:Ghost} {D D':Nat→Prop} {r:Nat→Place} {a:AV} {v:Value} (h:OwnAt G D r a v) (hD:∀k,D k→D' k):OwnAt G D' r a v:=by
 unfold OwnAt at*
 split at h
 ·exact fun j c u hc hu=>(h j c u hc hu).wide hD
 ·exact fun j c u hc hu=>(h j c u hc hu).wide hD
 ·exact Own1.wide h hD
theorem WR.wide {D D':Nat→Prop} {G:Ghost} {σ:Store} {w:World} (h:WR D G σ w) (hD:∀k,D k→D' k):WR D' G σ w:=
 ⟨h.frz,h.own,fun o cs ho=>let ⟨h1,h2,h3,cur,e,h4,h5,h6⟩:=h.obj o cs ho
  ⟨hD _ h1,h2,h3,cur,e,h4,h5,fun i c u hc hu=>let ⟨p,q,r⟩:=h6 i c u hc hu;⟨p,q,r.wide hD⟩⟩,h.laid,fun g cs hg=>let ⟨q1,q2⟩:=h.oth g cs hg;⟨hD _ q1,q2⟩,h.vars⟩
theorem Own1.same {G G':Ghost} {D:Nat→Prop} {π:Place} {a:AV} {v:Value} (h:Own1 G D π a v) (hS:∀g n z,D g→G.S g=some (n,z,π)→G'.S g=some (n,z,π)):Own1 G' D π a v:=by
 unfold Own1 at*
 split at h
 ·rcases h with h|⟨hd,z,hz,hc⟩
  ·exact .inl h
  ·exact .inr ⟨hd,z,hS _ _ _ hd hz,hc⟩
 ·trivial
theorem Own1.re {G G':Ghost} {D:Nat→Prop} {π π':Place} {a:AV} {v:Value} (h:Own1 G D π a v) (hS:∀g n z,D g→G.S g=some (n,z,π)→G'.S g=some (n,z,π')):Own1 G' D π' a v:=by
 unfold Own1 at*
 split at h
 ·rcases h with h|⟨hd,z,hz,hc⟩
  ·exact .inl h
  ·exact .inr ⟨hd,z,hS _ _ _ hd hz,hc⟩
 ·trivial
theorem OwnAt.re {G G':Ghost} {D:Nat→Prop} {r r':Nat→Place} {a:AV} {v:Value} (h:OwnAt G D r a v) (hS:∀g n z j,D g→G.S g=some (n,z,r j)→G'.S g=some (n,z,r' j)):OwnAt G' D r' a v:=by
 unfold OwnAt at*
 split at h
 ·exact fun j c u hc hu=>Own1.re (h j c u hc hu) fun g n z hd hg=>hS g n z j hd hg
 ·exact fun j c u hc hu=>Own1.re (h j c u hc hu) fun g n z hd hg=>hS g n z j hd hg
 ·exact Own1.re h fun g n z hd hg=>hS g n z 0 hd hg
def AV.drop1:AV→AV
 | .list _ sz vs=> .list false sz vs
 |v=>v
def AV.share:AV→AV
 | .list _ sz vs=> .list false sz vs
 | .agg cs=> .agg (cs.map AV.drop1)
 | .tuple cs=> .tuple (cs.map AV.drop1)
 |v=>v
theorem VR.drop1 {F:Frz} {a:AV} {v:Value} (h:VR F a v):VR F a.drop1 v:=by
 cases h with
 |nil o s=>exact .nil false s
 |void s a=>exact .void s a
 |list own sz vs g off n cap us hn hc hw hl h1 h2=>exact .list false sz vs g off n cap us hn hc hw hl h1 h2
 |top v=>exact .top v
 |lit v=>exact .lit v
 |fptr cs g off us hl h1 h2=>exact .fptr cs g off us hl h1 h2
 |func fn fs cs ufs ucs h1 h2 h3 h4=>exact .func fn fs cs ufs ucs h1 h2 h3 h4
 |iface t a v h=>exact .iface t a v h
 |agg cs us hl h1 hv=>exact .agg cs us hl h1 hv
 |tuple cs us hl hv=>exact .tuple cs us hl hv
 |row p n cap hc=>exact .row p n cap hc
theorem VR.share {F:Frz} {a:AV} {v:Value} (h:VR F a v):VR F a.share v:=by
 cases h with
 |agg cs us hl h1 hv=>
  refine .agg _ us (by simpa using hl) h1 fun i c u hc hu=> ?_
  rw[List.getElem?_map] at hc
  cases hci:cs[i]? with
  |none=>simp[hci] at hc
  |some c'=>simp[hci] at hc;subst hc;exact (hv i c' u hci hu).drop1
 |tuple cs us hl hv=>
  refine .tuple _ us (by simpa using hl) fun i c u hc hu=> ?_
  rw[List.getElem?_map] at hc
  cases hci:cs[i]? with
  |none=>simp[hci] at hc
  |some c'=>simp[hci] at hc;subst hc;exact (hv i c' u hci hu).drop1
 |nil o s=>exact .nil false s
 |void s a=>exact .void s a
 |list own sz vs g off n cap us hn hc hw hl h1 h2=>exact .list false sz vs g off n cap us hn hc hw hl h1 h2
 |top v=>exact .top v
 |lit v=>exact .lit v
 |fptr cs g off us hl h1 h2=>exact .fptr cs g off us hl h1 h2
 |func fn fs cs ufs ucs h1 h2 h3 h4=>exact .func fn fs cs ufs ucs h1 h2 h3 h4
 |iface t a v h=>exact .iface t a v h
 |row p n cap hc=>exact .row p n cap hc
theorem Own1.drop1 (G:Ghost) (D:Nat→Prop) (π:Place) (a:AV) (v:Value):Own1 G D π a.drop1 v:=by
 cases a<;>simp[AV.drop1,Own1]
theorem OwnAt.share (G:Ghost) (D:Nat→Prop) (r:Nat→Place) (a:AV) (v:Value):OwnAt G D r a.share v:=by
 cases a with
 |agg cs=>
  cases v<;>simp only[AV.share,OwnAt,Own1]
  intro j c u hc _
  rw[List.getElem?_map] at hc
  cases hci:cs[j]? with
  |none=>simp[hci] at hc
  |some c'=>simp[hci] at hc;subst hc;exact Own1.drop1 ..
 |tuple cs=>
  cases v<;>simp only[AV.share,OwnAt,Own1]
  intro j c u hc _
  rw[List.getElem?_map] at hc
  cases hci:cs[j]? with
  |none=>simp[hci] at hc
  |some c'=>simp[hci] at hc;subst hc;exact Own1.drop1 ..
 |list o s vs=>simp[AV.share,OwnAt,Own1]
 |_=>simp[AV.share,OwnAt,Own1]
def AV.plain1:AV→Bool
 | .list o _ _=> !o
 |_=>true
def AV.plain:AV→Bool
 | .list o _ _=> !o
 | .agg cs=>cs.all AV.plain1
 | .tuple cs=>cs.all AV.plain1
 |_=>true
theorem Own1.of_plain {G:Ghost} {D:Nat→Prop} {π:Place} {a:AV} {v:Value} (h:a.plain1=true):Own1 G D π a v:=by
 cases a<;>simp_all[AV.plain1,Own1]
theorem OwnAt.of_plain {G:Ghost} {D:Nat→Prop} {r:Nat→Place} {a:AV} {v:Value} (h:a.plain=true):OwnAt G D r a v:=by
 cases a with
 |agg cs=>
  cases v<;>simp only[OwnAt,Own1]
  intro j c u hc _
  exact Own1.of_plain (List.all_eq_true.1 h c (List.mem_of_getElem? hc))
 |tuple cs=>
  cases v<;>simp only[OwnAt,Own1]
  intro j c u hc _
  exact Own1.of_plain (List.all_eq_true.1 h c (List.mem_of_getElem? hc))
 |list o s vs=>simp_all[AV.plain,OwnAt,Own1]
 |_=>simp[OwnAt,Own1]
end Go.AL
namespace Go.AL
open Go Go.RowKit Classical
variable [GL]
set_option linter.unusedSectionVars false
noncomputable def Ghost.mv (G:Ghost) (D:Nat→Prop) (f:Place→Place):Ghost:=
 {G with S:=fun g=>if D g then (G.S g).map fun e=>(e.1,e.2.1,f e.2.2) else G.S g}
theorem Ghost.mv_some {G:Ghost} {D:Nat→Prop} {f:Place→Place} {g n z:Nat} {π:Place} (hd:D g) (h:G.S g=some (n,z,π)):(G.mv D f).S g=some (n,z,f π):=by
 simp[Ghost.mv,hd,h]
theorem Ghost.mv_back {G:Ghost} {D:Nat→Prop} {f:Place→Place} {g n z:Nat} {π:Place} (h:(G.mv D f).S g=some (n,z,π)):∃π',G.S g=some (n,z,π'):=by
 simp only[Ghost.mv] at h
 split at h
 ·cases hg:G.S g with
  |none=>simp[hg] at h
  |some e=>simp[hg] at h;obtain ⟨rfl,rfl,_⟩:=h;exact ⟨e.2.2,rfl⟩
 ·exact ⟨π,h⟩
theorem Ghost.mv_none {G:Ghost} {D:Nat→Prop} {f:Place→Place} {g:Nat} (h:G.S g=none):(G.mv D f).S g=none:=by
 simp[Ghost.mv,h]
theorem WR.reS {D:Nat→Prop} {G G':Ghost} {σ:Store} {w:World} (h:WR D G σ w) (hF:G'.F=G.F)
  (hb:∀g n z π,G'.S g=some (n,z,π)→∃π',G.S g=some (n,z,π'))
  (ho:∀g n z (o:Nat) i,D g→σ o≠none→G.S g=some (n,z, .obj o i)→G'.S g=some (n,z, .obj o i)):WR D G' σ w:=by
 have hS':∀k,G.S k=none→G'.S k=none:=fun k hk=>by
  cases hs:G'.S k with
  |none=>rfl
  |some x=>obtain ⟨π',hx⟩:=hb k x.1 x.2.1 x.2.2 hs;simp[hk] at hx
 refine ⟨by rw[hF];exact h.frz,fun g n z π hg=> ?_,fun o cs hcs=> ?_,by rw[hF];exact h.laid,othKeep h (fun _ _ _ h=>by rw[hF];exact h) (fun _=>rfl) fun k ob hi hk=>⟨hk,hi.1,hS' k hi.2.1,by rw[hF];exact hi.2.2⟩,varKeep h fun k ob hi hk=>⟨hk,hi.1,hi.2.1,hS' k hi.2.2⟩⟩
 ·obtain ⟨π',hg'⟩:=hb g n z π hg
  rw[hF];exact h.own g n z π' hg'
 ·obtain ⟨h1,h2,h3,cur,e,h4,h5,h6⟩:=h.obj o cs hcs
  refine ⟨h1, ?_,by rw[hF];exact h3,cur,e,h4,h5,fun i c u hc hu=> ?_⟩
  ·cases hs:G'.S o with
   |none=>rfl
   |some x=>obtain ⟨π',hx⟩:=hb o x.1 x.2.1 x.2.2 hs;simp[h2] at hx
  ·obtain ⟨p,q,r⟩:=h6 i c u hc hu
   exact ⟨p,by rw[hF];exact q,r.same fun g n z hd hg=>ho g n z o i hd (by rw[hcs];simp) hg⟩
theorem WR.mv {D:Nat→Prop} {G:Ghost} {σ:Store} {w:World} (h:WR D G σ w) (f:Place→Place) (hf:∀o i,f (.obj o i)= .obj o i):WR D (G.mv D f) σ w:=
 h.reS rfl (fun _ _ _ _ hg=>Ghost.mv_back hg) (fun g n z o i hd _ hg=>by rw[Ghost.mv_some hd hg,hf])
theorem Ext.mv {D:Nat→Prop} (G:Ghost) (w:World) (f:Place→Place):Ext D G w (G.mv D f) w:=
 ⟨rfl,rfl,rfl,Nat.le_refl _,fun _ _ _ h=>h,fun k hk=>⟨rfl,by simp[Ghost.mv,hk],rfl⟩⟩
theorem getD_set (ts:Array Value) (d i:Nat) (v:Value):(ts.setIfInBounds d v).getD i undef=if i=d∧d<ts.size then v else ts.getD i undef:=by
 simp only[Array.getD_eq_getD_getElem?,Array.getElem?_setIfInBounds]
 by_cases h:d=i
 ·subst h
  by_cases hd:d<ts.size
  ·simp[hd]
  ·simp[hd]
 ·rw[if_neg h,if_neg (by intro hh;exact h hh.1.symm)]
def toSlot (d:Nat):Place→Place
 | .acc j=> .slot d j
 |π=>π
theorem Rel.put {D:Nat→Prop} {n:Nat} {G:Ghost} {A:Slots} {σ:Store} {a:Act} {w:World} (h:Rel D n G A σ a w) {v:AV} {cv:Value} (hv:VR G.F v cv) (ho:OwnAt G D .acc v cv)
  {d:Nat} (hd:d<n):Rel D n (G.mv D (toSlot d)) (upd A d v) σ (a.put (some d) cv) w:=by
 have hsz:=h.size
 refine ⟨h.defers,by simp[Act.put,hsz],fun i=> ?_,fun i=> ?_,h.world.mv _ (fun _ _=>rfl),h.fresh⟩
 ·simp only[Act.put,getD_set,upd,hsz]
  by_cases hi:i=d
  ·simp only[hi,hd,and_self,if_true];exact hv
  ·simp only[hi,false_and,if_false];exact h.val i
 ·simp only[Act.put,getD_set,upd,hsz]
  by_cases hi:i=d
  ·simp only[hi,hd,and_self,if_true]
   exact ho.re fun g n z j hg hs=>Ghost.mv_some hg hs
  ·simp only[hi,false_and,if_false]
   exact (h.own i).re fun g n z j hg hs=>Ghost.mv_some hg hs
theorem Rel.forget {D:Nat→Prop} {n:Nat} {G:Ghost} {A:Slots} {σ:Store} {a:Act} {w:World} (h:Rel D n G A σ a w) (A':Slots)
  (hv:∀i v,VR G.F (A i) v→VR G.F (A' i) v) (ho:∀i v,OwnAt G D (.slot i) (A i) v→OwnAt G D (.slot i) (A' i) v):Rel D n G A' σ a w:=
 ⟨h.defers,h.size,fun i=>hv i _ (h.val i),fun i=>ho i _ (h.own i),h.world,h.fresh⟩
def fromSlot (t:Nat):Place→Place
 | .slot i j=>if i=t then .acc j else .slot i j
 |π=>π
theorem Rel.take {D:Nat→Prop} {n:Nat} {G:Ghost} {A:Slots} {σ:Store} {a:Act} {w:World} (h:Rel D n G A σ a w) (t:Nat):
  Rel D n (G.mv D (fromSlot t)) (upd A t (A t).share) σ a w∧OwnAt (G.mv D (fromSlot t)) D .acc (A t) (a.tmps.getD t undef):=by
 refine ⟨⟨h.defers,h.size,fun i=> ?_,fun i=> ?_,h.world.mv _ (fun _ _=>rfl),h.fresh⟩, ?_⟩
 ·simp only[upd];split
  ·rename_i hi;subst hi;exact (h.val i).share
  ·exact h.val i
 ·simp only[upd];split
  ·exact OwnAt.share ..
  ·rename_i hi
   exact (h.own i).re fun g n z j hg hs=>by rw[Ghost.mv_some hg hs];simp[fromSlot,hi]
 ·exact (h.own t).re fun g n z j hg hs=>by rw[Ghost.mv_some hg hs];simp[fromSlot]
def Frz.put (F:Frz) (g off:Nat) (us:List Value):Frz:=fun k i=>if k=g∧off≤i∧i<off+us.length then us[i-off]? else F k i
theorem Frz.put_mono {F:Frz} {g off:Nat} {us:List Value} (h:∀i,off≤i→F g i=none) (k i:Nat) (u:Value) (hu:F k i=some u):F.put g off us k i=some u:=by
 unfold Frz.put
 split
 ·rename_i hc;obtain ⟨rfl,h1,_⟩:=hc;simp[h i h1] at hu
 ·exact hu
theorem Frz.put_at (F:Frz) (g off:Nat) (us:List Value) (i:Nat) (u:Value) (hu:us[i]?=some u):F.put g off us g (off+i)=some u:=by
 have hlt:i<us.length:=(List.getElem?_eq_some_iff.1 hu).1
 unfold Frz.put
 rw[if_pos ⟨rfl,by omega,by omega⟩]
 simpa using hu
theorem Frz.put_other {F:Frz} {g off:Nat} {us:List Value} {k:Nat} (h:k≠g):F.put g off us k=F k:=by
 funext i;simp[Frz.put,h]
theorem Frz.put_above {F:Frz} {g off:Nat} {us:List Value} {i:Nat} (hi:off+us.length≤i):F.put g off us g i=F g i:=by
 unfold Frz.put;rw[if_neg (by omega)]
noncomputable def Ghost.setS (G:Ghost) (g:Nat) (x:Nat×Nat×Place):Ghost:= {G with S:=fun k=>if k=g then some x else G.S k}
theorem WR.freeze {D:Nat→Prop} {G:Ghost} {σ:Store} {w:World} (h:WR D G σ w) {g n z:Nat} {π:Place} (hS:G.S g=some (n,z,π)) (hπ:∀o i,π≠ .obj o i)
  {cur:Array Value} {e:TypeId} {fz:Nat×Nat} (hg:w.heap[g]?=some (.cells cur e fz)) (us:List Value) (hus:∀i u,us[i]?=some u→cur[n+i]?=some u) (π':Place):
  WR D (Ghost.setS ⟨Frz.put G.F g n us,G.S⟩ g (n+us.length,z,π')) σ w:=by
 obtain ⟨hσ,⟨cur0,e0,hg0,hz⟩,hnone⟩:=h.own g n z π hS
 refine ⟨fun k i u hu=> ?_,fun k m y ρ hk=> ?_,fun o cs hcs=> ?_,fun k cs hk=>(h.laid k cs hk).mono (fun k i u hu=>Frz.put_mono (fun i hi=>hnone _ hi) k i u hu),
  othKeep (G':=Ghost.setS ⟨Frz.put G.F g n us,G.S⟩ g (n+us.length,z,π')) h (fun k i u hu=>Frz.put_mono (fun i hi=>hnone _ hi) k i u hu) (fun _=>rfl) fun k ob hi hk=>by
   have hne:k≠g:=fun e=>by subst e;have:=hi.2.1;rw[hS] at this;cases this
   exact ⟨hk,hi.1,by simp[Ghost.setS,hne,hi.2.1],fun i=>by simp only[Ghost.setS];rw[Frz.put_other hne];exact hi.2.2 i⟩,varKeep h fun k ob hi hk=>by
   have hne:k≠g:=fun e=>by subst e;have:=hi.2.2;rw[hS] at this;cases this
   exact ⟨hk,hi.1,hi.2.1,by simp[Ghost.setS,hne,hi.2.2]⟩⟩
 ·simp only[Ghost.setS,Frz.put] at hu
  split at hu
  ·rename_i hc;obtain ⟨rfl,h1,h2⟩:=hc
   refine ⟨cur,e,fz,hg, ?_⟩
   have:=hus _ _ hu
   rwa[show n+(i-n)=i from by omega] at this
  ·exact h.frz k i u hu
 ·simp only[Ghost.setS] at hk
  split at hk
  ·rename_i hkg;subst hkg
   simp only[Option.some.injEq,Prod.mk.injEq] at hk
   obtain ⟨rfl,rfl,rfl⟩:=hk
   refine ⟨hσ,⟨cur0,e0,hg0,hz⟩,fun i hi=> ?_⟩
   simp only[Ghost.setS]
   rw[Frz.put_above hi];exact hnone i (by omega)
  ·rename_i hkg
   obtain ⟨h1,h2,h3⟩:=h.own k m y ρ hk
   refine ⟨h1,h2,fun i hi=> ?_⟩
   simp only[Ghost.setS]
   rw[Frz.put_other hkg];exact h3 i hi
 ·obtain ⟨h1,h2,h3,cur',e',h4,h5,h6⟩:=h.obj o cs hcs
  have hne:o≠g:=fun e=>by subst e;simp[hS] at h2
  refine ⟨h1,by simp[Ghost.setS,hne,h2],fun i=>by simp only[Ghost.setS];rw[Frz.put_other hne];exact h3 i,cur',e',h4,h5,fun i c u hc hu=> ?_⟩
  obtain ⟨p,q,r⟩:=h6 i c u hc hu
  refine ⟨p,q.mono (Frz.put_mono hnone),r.same fun k m y hd hk=> ?_⟩
  simp only[Ghost.setS]
  split
  ·rename_i hkg;subst hkg;rw[hS] at hk;simp only[Option.some.injEq,Prod.mk.injEq] at hk;exact absurd hk.2.2 (hπ o i)
  ·exact hk
theorem WR.newRow {D:Nat→Prop} {G:Ghost} {σ:Store} {w:World} (h:WR D G σ w) (cur:Array Value) (e:TypeId) (π:Place):
  WR D (G.setS w.heap.size (0,cur.size,π)) σ (w.alloc (.cells cur e)):=by
 have hlt:∀(k:Nat) (o:Obj),w.heap[k]?=some o→k≠w.heap.size:=fun k o hk=>by have:=(Array.getElem?_eq_some_iff.1 hk).1;omega
 have hold:∀(k:Nat) (o:Obj),w.heap[k]?=some o→(w.alloc (.cells cur e)).heap[k]?=some o:=fun k o hk=>by
  rw[Below.heap_alloc w _ k (Array.getElem?_eq_some_iff.1 hk).1];exact hk
 refine ⟨fun g i u hu=> ?_,fun g n z ρ hg=> ?_,fun o cs hcs=> ?_,h.laid,othKeep (G':=G.setS w.heap.size (0,cur.size,π)) h (fun _ _ _ h=>h) (fun _=>rfl) fun k ob hi hk=>⟨hold k ob hk,hi.1,by simp[Ghost.setS,hlt _ _ hk,hi.2.1],hi.2.2⟩,varKeep h fun k ob hi hk=>⟨hold k ob hk,hi.1,hi.2.1,by simp[Ghost.setS,hlt _ _ hk,hi.2.2]⟩⟩
 ·obtain ⟨c,e',fz,h1,h2⟩:=h.frz g i u hu
  exact ⟨c,e',fz,hold _ _ h1,h2⟩
 ·simp only[Ghost.setS] at hg
  split at hg
  ·rename_i hgs;subst hgs
   simp only[Option.some.injEq,Prod.mk.injEq] at hg
   obtain ⟨rfl,rfl,rfl⟩:=hg
   refine ⟨?_,⟨cur,e, .of (heap_alloc_new w _),rfl⟩,fun i _=> ?_⟩
   ·cases hs:σ w.heap.size with
    |none=>rfl
    |some cs=>obtain ⟨_,_,_,c,e',h4,_⟩:=h.obj _ cs hs;exact absurd rfl (hlt _ _ h4)
   ·cases hF:G.F w.heap.size i with
    |none=>exact hF
    |some u=>obtain ⟨c,e',fz,h1,_⟩:=h.frz _ i u hF;exact absurd rfl (hlt _ _ h1)
  ·obtain ⟨h1,⟨c,e',h2,h3⟩,h4⟩:=h.own g n z ρ hg
   exact ⟨h1,⟨c,e',h2.keep fun _ q=>hold _ _ q,h3⟩,h4⟩
 ·obtain ⟨h1,h2,h3,c,e',h4,h5,h6⟩:=h.obj o cs hcs
  refine ⟨h1,by simp[Ghost.setS,hlt _ _ h4,h2],h3,c,e',hold _ _ h4,h5,fun i cc u hc hu=> ?_⟩
  obtain ⟨p,q,r⟩:=h6 i cc u hc hu
  refine ⟨p,q,r.same fun k m y hd hk=> ?_⟩
  obtain ⟨_,⟨c',e'',⟨_,hk',_⟩,_⟩,_⟩:=h.own k m y _ hk
  simp[Ghost.setS,hlt _ _ hk',hk]
theorem WR.newObj {D:Nat→Prop} {G:Ghost} {σ:Store} {w:World} (h:WR D G σ w) (hD:D w.heap.size) (cur:Array Value) (e:TypeId) (cs:List AV) (hl:cs.length≤cur.size)
  (hc:∀i c u,cs[i]?=some c→cur[i]?=some u→u.oneCell'=true∧VR G.F c u∧Own1 G D (.obj w.heap.size i) c u):WR D G (σ.upd w.heap.size cs) (w.alloc (.cells cur e)):=by
 have hlt:∀(k:Nat) (o:Obj),w.heap[k]?=some o→k≠w.heap.size:=fun k o hk=>by have:=(Array.getElem?_eq_some_iff.1 hk).1;omega
 have hold:∀(k:Nat) (o:Obj),w.heap[k]?=some o→(w.alloc (.cells cur e)).heap[k]?=some o:=fun k o hk=>by
  rw[Below.heap_alloc w _ k (Array.getElem?_eq_some_iff.1 hk).1];exact hk
 refine ⟨fun g i u hu=> ?_,fun g n z ρ hg=> ?_,fun o cs' hcs=> ?_,h.laid,othKeep h (fun _ _ _ h=>h) (fun g=>upd_mkey ..) fun k ob hi hk=>⟨hold k ob hk,by simp[hlt _ _ hk,hi.1],hi.2⟩,varKeep h fun k ob hi hk=>⟨hold k ob hk,by simp[hlt _ _ hk,hi.1],by rw[upd_mkey];exact hi.2.1,hi.2.2⟩⟩
 ·obtain ⟨c,e',fz,h1,h2⟩:=h.frz g i u hu
  exact ⟨c,e',fz,hold _ _ h1,h2⟩
 ·obtain ⟨h1,⟨c,e',h2,h3⟩,h4⟩:=h.own g n z ρ hg
  exact ⟨by obtain ⟨_,q,_⟩:=h2;simp[hlt _ _ q,h1],⟨c,e',h2.keep fun _ q=>hold _ _ q,h3⟩,h4⟩
 ·simp only[upd_nat] at hcs
  split at hcs
  ·rename_i ho;subst ho
   simp only[Option.some.injEq] at hcs;subst hcs
   refine ⟨hD, ?_,fun i=> ?_,cur,e,heap_alloc_new w _,hl,hc⟩
   ·cases hs:G.S w.heap.size with
    |none=>rfl
    |some x=>obtain ⟨_,⟨c,e',⟨_,h2,_⟩,_⟩,_⟩:=h.own _ x.1 x.2.1 x.2.2 hs;exact absurd rfl (hlt _ _ h2)
   ·cases hF:G.F w.heap.size i with
    |none=>rfl
    |some u=>obtain ⟨c,e',fz,h1,_⟩:=h.frz _ i u hF;exact absurd rfl (hlt _ _ h1)
  ·obtain ⟨h1,h2,h3,c,e',h4,h5,h6⟩:=h.obj o cs' hcs
   exact ⟨h1,h2,h3,c,e',hold _ _ h4,h5,h6⟩
theorem WR.write {D:Nat→Prop} {G:Ghost} {σ:Store} {w w':World} (h:WR D G σ w) {g n z:Nat} {π:Place} (hS:G.S g=some (n,z,π))
  {cur cur':Array Value} {e:TypeId} {fz:Nat×Nat} (hfz:fz=(0,0)∨cur.size≤fz.1) (hg:w.heap[g]?=some (.cells cur e fz)) (hg':w'.heap[g]?=some (.cells cur' e fz)) (hsz:cur'.size=cur.size)
  (hlow:∀i,i<n→cur'[i]?=cur[i]?) (hother:∀k,k≠g→w'.heap[k]?=w.heap[k]?):WR D G σ w':=by
 obtain ⟨hσ,⟨cur0,e0,hg0,hz⟩,hnone⟩:=h.own g n z π hS
 obtain ⟨fz0,hg0,_⟩:=hg0
 rw[hg] at hg0;simp only[Option.some.injEq,Obj.cells.injEq] at hg0;obtain ⟨rfl,rfl,rfl⟩:=hg0
 refine ⟨fun k i u hu=> ?_,fun k m y ρ hk=> ?_,fun o cs hcs=> ?_,h.laid,othKeep h (fun _ _ _ h=>h) (fun _=>rfl) fun k ob hi hk=>by
  have hne:k≠g:=fun e=>by subst e;have:=hi.2.1;rw[hS] at this;cases this
  exact ⟨by rw[hother k hne];exact hk,hi⟩,varKeep h fun k ob hi hk=>by
  have hne:k≠g:=fun e=>by subst e;have:=hi.2.2;rw[hS] at this;cases this
  exact ⟨by rw[hother k hne];exact hk,hi⟩⟩
 ·obtain ⟨c,e',fz,h1,h2⟩:=h.frz k i u hu
  by_cases hkg:k=g
  ·subst hkg
   rw[hg] at h1;simp only[Option.some.injEq,Obj.cells.injEq] at h1;obtain ⟨rfl,rfl,rfl⟩:=h1
   refine ⟨cur',e,_,hg', ?_⟩
   have:i<n:=by
    rcases Nat.lt_or_ge i n with hi|hi
    ·exact hi
    ·simp[hnone i hi] at hu
   rw[hlow i this];exact h2
  ·exact ⟨c,e',fz,by rw[hother k hkg];exact h1,h2⟩
 ·obtain ⟨h1,⟨c,e',h2,h3⟩,h4⟩:=h.own k m y ρ hk
  by_cases hkg:k=g
  ·subst hkg
   obtain ⟨fz0,h2,_⟩:=h2
   rw[hg] at h2;simp only[Option.some.injEq,Obj.cells.injEq] at h2;obtain ⟨rfl,rfl,rfl⟩:=h2
   exact ⟨h1,⟨cur',e,⟨_,hg',hfz.imp id fun q=>hsz▸q⟩,by omega⟩,h4⟩
  ·exact ⟨h1,⟨c,e',h2.same (hother k hkg),h3⟩,h4⟩
 ·obtain ⟨h1,h2,h3,c,e',h4,h5,h6⟩:=h.obj o cs hcs
  have hne:o≠g:=fun e=>by subst e;simp[hS] at h2
  exact ⟨h1,h2,h3,c,e',by rw[hother o hne];exact h4,h5,h6⟩
theorem WR.setObj {D:Nat→Prop} {G:Ghost} {σ:Store} {w:World} (h:WR D G σ w) {o:Nat} {cs:List AV} (hcs:σ o=some cs) {i:Nat} (hi:i<cs.length) {c:AV} {u:Value}
  (h1:u.oneCell'=true) (hv:VR G.F c u) (ho:Own1 G D (.obj o i) c u):WR D G (σ.upd o (cs.set i c)) (w.setCell ⟨o,i,none⟩ u):=by
 obtain ⟨p1,p2,p3,cur,e,p4,p5,p6⟩:=h.obj o cs hcs
 have hother:∀k,k≠o→(w.setCell ⟨o,i,none⟩ u).heap[k]?=w.heap[k]?:=fun k hk=>Below.heap_setCell w _ u k hk
 have hme:(w.setCell ⟨o,i,none⟩ u).heap[o]?=some (.cells (cur.setIfInBounds i u) e (0,0)):=by
  simp[World.setCell,Array.getElem?_modify,p4]
 refine ⟨fun g j v hv=> ?_,fun g n z ρ hg=> ?_,fun o' cs' hcs'=> ?_,h.laid,othKeep h (fun _ _ _ h=>h) (fun g=>upd_mkey ..) fun k ob hi hk=>by
  have hne:k≠o:=fun e=>by subst e;have:=hi.1;rw[hcs] at this;cases this
  exact ⟨by rw[hother k hne];exact hk,by simp[hne,hi.1],hi.2⟩,varKeep h fun k ob hi hk=>by
  have hne:k≠o:=fun e=>by subst e;have:=hi.1;rw[hcs] at this;cases this
  exact ⟨by rw[hother k hne];exact hk,by simp[hne,hi.1],by rw[upd_mkey];exact hi.2.1,hi.2.2⟩⟩
 ·obtain ⟨c',e',fz,q1,q2⟩:=h.frz g j v hv
  have:g≠o:=fun e=>by subst e;simp[p3] at hv
  exact ⟨c',e',fz,by rw[hother g this];exact q1,q2⟩
 ·obtain ⟨q1,⟨c',e',q2,q3⟩,q4⟩:=h.own g n z ρ hg
  have:g≠o:=fun e=>by subst e;simp[p2] at hg
  exact ⟨by simp[this,q1],⟨c',e',q2.same (hother g this),q3⟩,q4⟩
 ·simp only[upd_nat] at hcs'
  split at hcs'
  ·rename_i hoo;subst hoo
   simp only[Option.some.injEq] at hcs';subst hcs'
   refine ⟨p1,p2,p3,_,e,hme,by simpa using p5,fun j c' u' hc' hu'=> ?_⟩
   rw[List.getElem?_set] at hc'
   rw[Array.getElem?_setIfInBounds] at hu'
   by_cases hij:i=j
   ·subst hij
    simp only[if_true,hi] at hc' hu'
    rw[if_pos (by omega)] at hu'
    simp only[Option.some.injEq] at hc' hu';subst hc' hu'
    exact ⟨h1,hv,ho⟩
   ·rw[if_neg hij] at hc' hu'
    exact p6 j c' u' hc' hu'
  ·rename_i hoo
   obtain ⟨q1,q2,q3,c',e',q4,q5,q6⟩:=h.obj o' cs' hcs'
   exact ⟨q1,q2,q3,c',e',by rw[hother o' hoo];exact q4,q5,q6⟩
theorem WR.forget {D:Nat→Prop} {G:Ghost} {σ σ':Store} {w:World} (h:WR D G σ w) (hs:∀o,σ' o=none∨σ' o=σ o):WR D G σ' w:=by
 refine ⟨h.frz,fun g n z ρ hg=> ?_,fun o cs hcs=> ?_,h.laid,fun g cs hg=> ?_,varKeep h fun k ob hi hk=>⟨hk,by rcases hs k with h'|h'<;>simp[h',hi.1],by rcases hs (mkey k) with h'|h'<;>simp[h',hi.2.1],hi.2.2⟩⟩
 ·obtain ⟨h1,h2⟩:=h.own g n z ρ hg
  exact ⟨by rcases hs g with h'|h'<;>simp[h',h1],h2⟩
 ·rcases hs o with h'|h'
  ·simp[h'] at hcs
  ·exact h.obj o cs (h'▸hcs)
 ·rcases hs (mkey g) with h'|h'
  ·simp[h'] at hg
  ·obtain ⟨q1,q2,q3⟩:=h.oth g cs (h'▸hg)
   exact ⟨q1,⟨by rcases hs g with h''|h''<;>simp[h'',q2.1],q2.2⟩,q3⟩
end Go.AL
namespace Go.AL
open Go Go.RowKit Classical
variable [GL]
set_option linter.unusedSectionVars false
def tSize (P:Program) (t:TypeId):Option Nat:=(P.info? t).map (·.size)
def tBytes (P:Program) (t:TypeId):Option Nat:=(P.info? t).map (·.bytes)
def tZero (P:Program) (t:TypeId):Option Value:=(P.info? t).bind (·.zero)
def tAgg (P:Program) (t:TypeId):Option Bool:=(P.underlying t).map fun| .struct _| .array _ _=>true|_=>false
def tElem (P:Program) (t:TypeId):Option TypeId:=(P.underlying t).bind fun| .slice e=>some e|_=>none
def tArr (P:Program) (t:TypeId):Option (Nat×TypeId):=(P.underlying t).bind fun| .array n e=>some (n,e)|_=>none
def tInt (P:Program) (t:TypeId):Option IntKind:=(P.underlying t).bind fun| .int k=>some k|_=>none
def tStr (P:Program) (t:TypeId):Bool:=(P.underlying t).any fun| .string=>true|_=>false
def tIface (P:Program) (t:TypeId):Option Bool:=(P.underlying t).map fun| .interface _=>true|_=>false
def tField (P:Program) (t:TypeId) (f:Nat):Option (Nat×TypeId):=(P.underlying t).bind fun| .struct fs=>(fs[f]?).map fun f=>(f.offset,f.type)|_=>none
def conv (P:Program) (t:TypeId) (a:AV):AV:=
 match a with
 | .lit (.slice none 0 0)=>match (tElem P t).bind (tSize P) with
  |some s=> .list true s []
  |none=>a
 |a=>a
theorem conv_VR {P:Program} {t:TypeId} {F:Frz} {a:AV} {v:Value} (h:VR F a v):VR F (conv P t a) v:=by
 unfold conv
 split
 ·split
  ·cases h;exact .nil ..
  ·exact h
 ·exact h
theorem conv_own {P:Program} {t:TypeId} {F:Frz} {G:Ghost} {D:Nat→Prop} {r:Nat→Place} {a:AV} {v:Value} (hv:VR F a v) (h:OwnAt G D r a v):OwnAt G D r (conv P t a) v:=by
 unfold conv
 split
 ·split
  ·cases hv;simp[OwnAt,Own1]
  ·exact h
 ·exact h
def cellTys (P:Program):Nat→TypeId→List TypeId
 |0,t=>[t]
 |d+1,t=>match P.underlying t with
  |some (.struct fs)=>fs.toList.flatMap fun f=>cellTys P d f.type
  |some (.array n e)=>(List.replicate n (cellTys P d e)).flatten
  |_=>[t]
def azero (P:Program) (t:TypeId):Option (List AV):=
 (tZero P t).bind fun z=>if z.cells.toList.all Value.oneCell' then some (z.cells.toList.zipIdx.map fun p=>conv P ((cellTys P 8 t).getD p.2 t) (.lit p.1)) else none
def mkAV (agg:Bool) (cs:List AV):Option AV:=
 if agg then some (.agg cs) else match cs with|[c]=>some c|_=>none
def AV.one:AV→Bool
 | .lit v=>v.oneCell'
 | .list .. | .fptr _| .func .. | .iface .. | .row .. =>true
 |_=>false
def AV.solid:AV→Bool
 | .agg _=>true
 |v=>v.one
theorem VR.one {F:Frz} {a:AV} {v:Value} (h:VR F a v) (h1:a.one=true):v.oneCell'=true:=by
 cases h<;>simp_all[AV.one,Value.oneCell']
theorem VR.cells {F:Frz} {a:AV} {v:Value} (h:VR F a v) (hs:a.solid=true):a.cells.length=v.cells.size∧∀(i:Nat) (c:AV) (u:Value),a.cells[i]?=some c→v.cells[i]?=some u→u.oneCell'=true∧VR F c u:=by
 cases h with
 |agg cs us hl h1 hv=>exact ⟨hl,fun i c u hc hu=>⟨h1 i u hu,hv i c u hc hu⟩⟩
 |top v=>simp[AV.solid,AV.one] at hs
 |tuple cs us hl hv=>simp[AV.solid,AV.one] at hs
 |lit v=>
  have hv:v.cells= #[v]:=by cases v<;>simp_all[AV.solid,AV.one,Value.oneCell',Value.cells]
  refine ⟨by simp[AV.cells,hv],fun i c u hc hu=> ?_⟩
  cases i with
  |zero=>simp[AV.cells,hv] at hc hu;subst hc hu;exact ⟨by simpa[AV.solid,AV.one] using hs, .lit v⟩
  |succ i=>simp[AV.cells] at hc
 |nil o s=>
  refine ⟨by simp[AV.cells,Value.cells],fun i c u hc hu=> ?_⟩
  cases i with
  |zero=>simp[AV.cells,Value.cells] at hc hu;subst hc hu;exact ⟨rfl, .nil o s⟩
  |succ i=>simp[AV.cells] at hc
 |row p n cap hcap=>
  refine ⟨by simp[AV.cells,Value.cells],fun i c u hc hu=> ?_⟩
  cases i with
  |zero=>simp[AV.cells,Value.cells] at hc hu;subst hc hu;exact ⟨rfl, .row p n cap hcap⟩
  |succ i=>simp[AV.cells] at hc
 |void s ad=>
  refine ⟨by simp[AV.cells,Value.cells],fun i c u hc hu=> ?_⟩
  cases i with
  |zero=>simp[AV.cells,Value.cells] at hc hu;subst hc hu;exact ⟨rfl, .void s ad⟩
  |succ i=>simp[AV.cells] at hc
 |list own sz vs g off n cap us hn hc hw hl h1 h2=>
  refine ⟨by simp[AV.cells,Value.cells],fun i c u hc' hu=> ?_⟩
  cases i with
  |zero=>simp[AV.cells,Value.cells] at hc' hu;subst hc' hu;exact ⟨rfl, .list own sz vs g off n cap us hn hc hw hl h1 h2⟩
  |succ i=>simp[AV.cells] at hc'
 |fptr cs g off us hl h1 h2=>
  refine ⟨by simp[AV.cells,Value.cells],fun i c u hc' hu=> ?_⟩
  cases i with
  |zero=>simp[AV.cells,Value.cells] at hc' hu;subst hc' hu;exact ⟨rfl, .fptr cs g off us hl h1 h2⟩
  |succ i=>simp[AV.cells] at hc'
 |func fn fs cs ufs ucs h1 h2 h3 h4=>
  refine ⟨by simp[AV.cells,Value.cells],fun i c u hc' hu=> ?_⟩
  cases i with
  |zero=>simp[AV.cells,Value.cells] at hc' hu;subst hc' hu;exact ⟨rfl, .func fn fs cs ufs ucs h1 h2 h3 h4⟩
  |succ i=>simp[AV.cells] at hc'
 |iface t a v h=>
  refine ⟨by simp[AV.cells,Value.cells],fun i c u hc' hu=> ?_⟩
  cases i with
  |zero=>simp[AV.cells,Value.cells] at hc' hu;subst hc' hu;exact ⟨rfl, .iface t a v h⟩
  |succ i=>simp[AV.cells] at hc'
def globA (g:Nat):AV:=match GL.tab g with|some cs=> .fptr cs|none=> .lit (.pointer (some ⟨g,0,none⟩))
theorem globA_some {g:Nat} {cs:List AV} (h:GL.tab g=some cs):globA g= .fptr cs:=by unfold globA;rw[h]
def evalA (A:Slots):Operand→AV
 | .tmp t=>A t
 | .const v=> .lit v
 | .global g=>globA g
 | .func f=> .func (.func f) [] []
theorem evalA_global_plain (A:Slots) (g:Nat):(evalA A (.global g)).plain=true:=by
 cases ht:GL.tab g<;>simp only[evalA,globA,ht]<;>rfl
theorem Rel.eval {D:Nat→Prop} {n:Nat} {G:Ghost} {A:Slots} {σ:Store} {a:Act} {w:World} (h:Rel D n G A σ a w) (x:Operand):VR G.F (evalA A x) (a.eval x):=by
 cases x with
 |tmp t=>exact h.val t
 |const v=>exact .lit v
 |global g=>
  cases ht:GL.tab g with
  |none=>simp only[evalA,globA,ht];exact .lit _
  |some cs=>simp only[evalA,globA,ht];exact h.world.laid g cs ht
 |func f=>exact .func _ _ _ _ _ rfl rfl (by simp) (by simp)
def takeA (A:Slots) (x:Operand) (K:AV→Slots→Prop):Prop:=
 match x with
 | .tmp t=>K (A t) (upd A t (A t).share)
 |x=>K (evalA A x) A
theorem Rel.takes {D:Nat→Prop} {n:Nat} {G:Ghost} {A:Slots} {σ:Store} {a:Act} {w:World} (h:Rel D n G A σ a w) {x:Operand} {K:AV→Slots→Prop} (hK:takeA A x K):
  ∃v A' G',K v A'∧Rel D n G' A' σ a w∧VR G'.F v (a.eval x)∧OwnAt G' D .acc v (a.eval x)∧Ext D G w G' w∧G'.F=G.F:=by
 have plain:∀v,VR G.F v (a.eval x)→v.plain=true→K v A→∃v A' G',K v A'∧Rel D n G' A' σ a w∧VR G'.F v (a.eval x)∧OwnAt G' D .acc v (a.eval x)∧Ext D G w G' w∧G'.F=G.F:=
  fun v hv hp hk=>⟨v,A,G,hk,h,hv,OwnAt.of_plain hp,Ext.refl ..,rfl⟩
 cases x with
 |tmp t=>obtain ⟨h1,h2⟩:=h.take t;exact ⟨_,_,_,hK,h1,h.val t,h2,Ext.mv ..,rfl⟩
 |const v=>exact plain _ (h.eval (.const v)) rfl hK
 |global g=>exact plain _ (h.eval (.global g)) (evalA_global_plain A g) hK
 |func f=>exact plain _ (h.eval (.func f)) rfl hK
def pureBin (op:BinOp) (a b:Value):Option Value:=
 match op,a,b with
 | .shl, .int k x, .int _ y=>if y<0 then none else some (.int k (k.wrap (x*2^(min y.toNat k.bits))))
 | .shr, .int k x, .int _ y=>if y<0 then none else some (.int k (x.fdiv (2^(min y.toNat k.bits))))
 | .add, .int k x, .int k' y=>if k=k' then some (.int k (k.wrap (x+y))) else none
 | .sub, .int k x, .int k' y=>if k=k' then some (.int k (k.wrap (x-y))) else none
 | .mul, .int k x, .int k' y=>if k=k' then some (.int k (k.wrap (x*y))) else none
 | .quo, .int k x, .int k' y=>if k=k' then (if y=0 then none else some (.int k (k.wrap (x.tdiv y)))) else none
 | .rem, .int k x, .int k' y=>if k=k' then (if y=0 then none else some (.int k (x.tmod y))) else none
 | .and, .int k x, .int k' y=>if k=k' then some (.int k (k.wrap (BitVec.ofInt k.bits x&&&BitVec.ofInt k.bits y).toNat)) else none
 | .or, .int k x, .int k' y=>if k=k' then some (.int k (k.wrap (BitVec.ofInt k.bits x|||BitVec.ofInt k.bits y).toNat)) else none
 | .xor, .int k x, .int k' y=>if k=k' then some (.int k (k.wrap (BitVec.ofInt k.bits x^^^BitVec.ofInt k.bits y).toNat)) else none
 | .andNot, .int k x, .int k' y=>if k=k' then some (.int k (k.wrap (BitVec.ofInt k.bits x&&& ~~~BitVec.ofInt k.bits y).toNat)) else none
 | .eql, .int k x, .int k' y=>if k=k' then some (.bool (x==y)) else none
 | .neq, .int k x, .int k' y=>if k=k' then some (.bool (x !=y)) else none
 | .lss, .int k x, .int k' y=>if k=k' then some (.bool (decide (x<y))) else none
 | .leq, .int k x, .int k' y=>if k=k' then some (.bool (decide (x≤y))) else none
 | .gtr, .int k x, .int k' y=>if k=k' then some (.bool (decide (x>y))) else none
 | .geq, .int k x, .int k' y=>if k=k' then some (.bool (decide (x≥y))) else none
 | .eql, .string x, .string y=>some (.bool (x.toList==y.toList))
 | .neq, .string x, .string y=>some (.bool (!(x.toList==y.toList)))
 | .lss, .string x, .string y=>some (.bool (Op.bytesLess x.toList y.toList))
 | .leq, .string x, .string y=>some (.bool (Op.bytesLess x.toList y.toList||x.toList==y.toList))
 | .gtr, .string x, .string y=>some (.bool (!(Op.bytesLess x.toList y.toList||x.toList==y.toList)))
 | .geq, .string x, .string y=>some (.bool (!(Op.bytesLess x.toList y.toList)))
 | .add, .string x, .string y=>if ((x.size+y.size:Nat):Int)>9223372036854775807 then none else some (.string (x++y))
 |_,_,_=>none
theorem eqGuard_int {P:Program} {op:BinOp} {t:TypeId} {x y:Operand} {k k':IntKind} {a b:Int} {w:World} :(eqGuard op t x y (.int k a) (.int k' b)).run P w= .ok () w:=by
 cases op<;>rfl
theorem eqGuard_str {P:Program} {op:BinOp} {t:TypeId} {x y:Operand} {a b:ByteArray} {w:World} :(eqGuard op t x y (.string a) (.string b)).run P w= .ok () w:=by
 cases op<;>rfl
theorem pureBin_sound {P:Program} {op:BinOp} {t:TypeId} {x y:Operand} {a b v:Value} (h:pureBin op a b=some v) (w:World):
  (do eqGuard op t x y a b;binOp op t a b:Sem Value).run P w= .ok v w:=by
 unfold pureBin at h
 split at h
 all_goals first
  |(cases h;done)
  |(cases h;rfl)
  |(simp only[Sem.run_bind,eqGuard_int,eqGuard_str,Result.andThen_ok]
    simp only[binOp,Op.shift,Op.intArith,Op.intDiv,Op.intBits,Op.intCmp,Op.stringOp]
    (repeat' split at h)<;>simp_all<;>omega)
def pureUn (op:UnOp) (a:Value):Option Value:=
 match op,a with
 | .neg, .int k n=>some (.int k (k.wrap (0-n)))
 | .xor, .int k n=>some (.int k (k.wrap (BitVec.ofInt k.bits (if k.signed then -1 else k.max)^^^BitVec.ofInt k.bits n).toNat))
 | .not, .bool b=>some (.bool (!b))
 |_,_=>none
theorem pureUn_sound {P:Program} {op:UnOp} {a v:Value} (h:pureUn op a=some v) (w:World):(Op.unary op a).run P w= .ok v w:=by
 unfold pureUn at h
 split at h
 all_goals first
  |(cases h;done)
  |(cases h;rfl)
end Go.AL
namespace Go.AL
open Go Go.RowKit Classical
variable [GL]
set_option linter.unusedSectionVars false
theorem run_isAgg {P:Program} {t:TypeId} {g:Bool} (h:tAgg P t=some g) (w:World):(isAgg t).run P w= .ok g w:=by
 unfold tAgg at h
 cases hu:P.underlying t with
 |none=>simp[hu] at h
 |some d=>
  simp[hu] at h
  unfold isAgg
  rw[Sem.run_bind,run_underlying hu w]
  cases d<;>simp_all
theorem run_sizeOf {P:Program} {t:TypeId} {s:Nat} (h:tSize P t=some s) (w:World):(sizeOf t).run P w= .ok s w:=by
 unfold tSize at h
 cases hi:P.info? t with
 |none=>simp[hi] at h
 |some i=>simp[hi] at h;simp[sizeOf,typeInfo,hi,h]
theorem run_zeroValue {P:Program} {t:TypeId} {z:Value} (h:tZero P t=some z) (w:World):(zeroValue t).run P w= .ok z w:=by
 unfold tZero at h
 cases hi:P.info? t with
 |none=>simp[hi] at h
 |some i=>simp[hi] at h;simp[zeroValue,typeInfo,hi,h]
theorem under_elem {P:Program} {t e:TypeId} (h:tElem P t=some e):P.underlying t=some (.slice e):=by
 unfold tElem at h
 cases hu:P.underlying t with
 |none=>simp[hu] at h
 |some d=>cases d<;>simp_all
theorem under_arr {P:Program} {t e:TypeId} {n:Nat} (h:tArr P t=some (n,e)):P.underlying t=some (.array n e):=by
 unfold tArr at h
 cases hu:P.underlying t with
 |none=>simp[hu] at h
 |some d=>cases d<;>simp_all
theorem under_int {P:Program} {t:TypeId} {k:IntKind} (h:tInt P t=some k):P.underlying t=some (.int k):=by
 unfold tInt at h
 cases hu:P.underlying t with
 |none=>simp[hu] at h
 |some d=>cases d<;>simp_all
theorem under_str {P:Program} {t:TypeId} (h:tStr P t=true):P.underlying t=some .string:=by
 unfold tStr at h
 cases hu:P.underlying t with
 |none=>simp[hu] at h
 |some d=>cases d<;>simp_all
theorem under_iface {P:Program} {t:TypeId} {b:Bool} (h:tIface P t=some b):∃d,P.underlying t=some d∧(b=true↔∃ms,d= .interface ms):=by
 unfold tIface at h
 cases hu:P.underlying t with
 |none=>simp[hu] at h
 |some d=>cases d<;>simp_all
theorem under_field {P:Program} {t ft:TypeId} {f off:Nat} (h:tField P t f=some (off,ft)):∃fs fl,P.underlying t=some (.struct fs)∧fs[f]?=some fl∧fl.offset=off∧fl.type=ft:=by
 unfold tField at h
 cases hu:P.underlying t with
 |none=>simp[hu] at h
 |some d=>
  cases d<;>simp_all
theorem add_addr (g o j:Nat):(⟨g,o,none⟩:Addr).add j=⟨g,o+j,none⟩:=Addr.add_lit g o j
theorem run_loadVar_cells {P:Program} {t:TypeId} {b:Bool} {s:Nat} (hb:tAgg P t=some b) (hs:tSize P t=some s) {w:World} {F:Frz} {g off:Nat} {cs:List AV} {us:List Value}
  (hl:cs.length=us.length) (hcell:∀(i:Nat) (u:Value),us[i]?=some u→w.cell? ⟨g,off+i,none⟩=some u∧u.oneCell'=true) (hv:∀(i:Nat) (c:AV) (u:Value),cs[i]?=some c→us[i]?=some u→VR F c u)
  (hn:cs.length=s) {v:AV} (hm:mkAV b cs=some v):∃cv,(loadVar t ⟨g,off,none⟩).run P w= .ok cv w∧VR F v cv:=by
 cases b with
 |true=>
  simp[mkAV] at hm;subst hm
  refine ⟨.agg us.toArray, ?_, .agg _ _ (by simpa using hl) (fun i u hu=>(hcell i u (by simpa using hu)).2) fun i c u hc hu=>hv i c u hc (by simpa using hu)⟩
  have:=run_loadCells_list (P:=P) w ⟨g,off,none⟩ us (fun j v hj=>by rw[add_addr];exact (hcell j v hj).1)
  rw[←hl,hn] at this
  simp[loadVar,run_isAgg hb,run_sizeOf hs,this]
 |false=>
  match cs,hm with
  |[c],hm=>
   simp[mkAV] at hm;subst hm
   match us,hl with
   |[u],_=>
    refine ⟨u, ?_,hv 0 c u rfl rfl⟩
    have:=(hcell 0 u rfl).1
    simp only[Nat.add_zero] at this
    simp[loadVar,run_isAgg hb,this]
  |[],hm=>simp[mkAV] at hm
  |_::_::_,hm=>simp[mkAV] at hm
def aLoad (P:Program) (σ:Store) (t:TypeId) (a:AV):Option AV:=
 match tAgg P t,tSize P t with
 |some b,some s=>
  match a with
  | .lit (.pointer (some ⟨o,off,none⟩))=>match σ o with
   |some cs=>if off+s≤cs.length then mkAV b ((cs.drop off).take s) else none
   |none=>none
  | .fptr cs=>if s≤cs.length then mkAV b (cs.take s) else none
  |_=>none
 |_,_=>none
theorem aLoad_sound {P:Program} {D:Nat→Prop} {G:Ghost} {σ:Store} {w:World} (hW:WR D G σ w) {t:TypeId} {a v:AV} {x:Value} (h:aLoad P σ t a=some v) (hx:VR G.F a x):
  ∃cv,(Instr.loadAt t x).run P w= .ok cv w∧VR G.F v cv:=by
 unfold aLoad at h
 split at h
 case h_2=>simp at h
 rename_i b s hb hs
 split at h
 ·rename_i o off
  cases hx
  split at h
  case h_2=>simp at h
  rename_i cs hcs
  split at h
  case isFalse=>simp at h
  rename_i hle
  obtain ⟨_,_,_,cur,e,h4,h5,h6⟩:=hW.obj o cs hcs
  have hlen:((cur.toList.drop off).take s).length=s:=by simp;omega
  have hlen':((cs.drop off).take s).length=s:=by simp;omega
  have key:∀(i:Nat) (c:AV) (u:Value),((cs.drop off).take s)[i]?=some c→((cur.toList.drop off).take s)[i]?=some u→cs[off+i]?=some c∧cur[off+i]?=some u:=by
   intro i c u hc hu
   have hi:i<s:=by have:=(List.getElem?_eq_some_iff.1 hc).1;omega
   rw[List.getElem?_take_of_lt hi,List.getElem?_drop] at hc hu
   exact ⟨hc,by simpa using hu⟩
  refine let ⟨cv,hr,hvv⟩:=run_loadVar_cells hb hs (w:=w) (F:=G.F) (g:=o) (off:=off) (cs:=(cs.drop off).take s) (us:=(cur.toList.drop off).take s) (by omega) ?_ ?_ hlen' h
   ⟨cv,by simpa[Instr.loadAt,Instr.sureAddr] using hr,hvv⟩
  ·intro i u hu
   have hi:i<s:=by have:=(List.getElem?_eq_some_iff.1 hu).1;omega
   have hc:((cs.drop off).take s)[i]?=some (((cs.drop off).take s)[i]'(by omega)):=List.getElem?_eq_getElem _
   obtain ⟨q1,q2⟩:=key i _ u hc hu
   rw[cell_of_row w o (off+i) cur e (0,0) h4]
   exact ⟨q2,(h6 _ _ _ q1 q2).1⟩
  ·intro i c u hc hu
   obtain ⟨q1,q2⟩:=key i c u hc hu
   exact (h6 _ _ _ q1 q2).2.1
 ·rename_i cs
  cases hx with|fptr _ g off us hl hF hv=> ?_
  split at h
  case isFalse=>simp at h
  rename_i hle
  have key:∀(i:Nat) (u:Value),(us.take s)[i]?=some u→us[i]?=some u:=by
   intro i u hu
   have hi:i<s:=by have:=(List.getElem?_eq_some_iff.1 hu).1;simp at this;omega
   rwa[List.getElem?_take_of_lt hi] at hu
  have key':∀(i:Nat) (u:AV),(cs.take s)[i]?=some u→cs[i]?=some u:=by
   intro i u hu
   have hi:i<s:=by have:=(List.getElem?_eq_some_iff.1 hu).1;simp at this;omega
   rwa[List.getElem?_take_of_lt hi] at hu
  refine let ⟨cv,hr,hvv⟩:=run_loadVar_cells hb hs (w:=w) (F:=G.F) (g:=g) (off:=off) (cs:=cs.take s) (us:=us.take s) (by simp;omega) ?_ ?_ (by simp;omega) h
   ⟨cv,by simpa[Instr.loadAt,Instr.sureAddr] using hr,hvv⟩
  ·intro i u hu
   obtain ⟨q1,q2⟩:=hF i u (key i u hu)
   obtain ⟨cur,e,fz,q3,q4⟩:=hW.frz _ _ _ q1
   exact ⟨by rw[cell_of_row w g (off+i) cur e fz q3];exact q4,q2⟩
  ·exact fun i c u hc hu=>hv i c u (key' i c hc) (key i u hu)
 ·simp at h
def aFieldAddr (P:Program) (s:TypeId) (f:Nat) (a:AV):Option AV:=
 match tField P s f with
 |some (off,ft)=>match tSize P ft with
  |some (_+1)=>match a with
   | .lit (.pointer (some ⟨o,i,none⟩))=>some (.lit (.pointer (some ⟨o,i+off,none⟩)))
   | .fptr cs=>some (.fptr (cs.drop off))
   |_=>none
  |_=>none
 |none=>none
theorem VR.fptr_drop {F:Frz} {cs:List AV} {g off:Nat} (h:VR F (.fptr cs) (.pointer (some ⟨g,off,none⟩))) (k:Nat):VR F (.fptr (cs.drop k)) (.pointer (some ⟨g,off+k,none⟩)):=by
 cases h with|fptr _ _ _ us hl hF hv=> ?_
 refine .fptr _ g (off+k) (us.drop k) (by simp[hl]) (fun i u hu=> ?_) fun i c u hc hu=> ?_
 ·rw[List.getElem?_drop] at hu
  have:=hF _ _ hu
  rwa[show off+k+i=off+(k+i) from by omega]
 ·rw[List.getElem?_drop] at hc hu
  exact hv _ _ _ hc hu
theorem aFieldAddr_sound {P:Program} {F:Frz} {w:World} {s:TypeId} {f:Nat} {a v:AV} {x:Value} (h:aFieldAddr P s f a=some v) (hx:VR F a x):
  ∃cv,(Instr.fieldAt s x f).run P w= .ok cv w∧VR F v cv:=by
 unfold aFieldAddr at h
 split at h
 case h_2=>simp at h
 rename_i off ft hf
 split at h
 case h_2=>simp at h
 rename_i m hs
 obtain ⟨fs,fl,h1,h2,h3,h4⟩:=under_field hf
 have hsz:(sizeOf fl.type).run P w= .ok (m+1) w:=by rw[h4];exact run_sizeOf hs w
 split at h
 ·rename_i o i
  cases hx
  simp at h;subst h
  refine ⟨.pointer (some ⟨o,i+off,none⟩), ?_, .lit _⟩
  simp[Instr.fieldAt,run_underlying h1,h2,Instr.sureAddr,fieldPlace,hsz,h3,add_addr]
 ·rename_i cs
  simp at h;subst h
  have hx0:=hx
  cases hx with|fptr _ g off' us hl hF hv=> ?_
  refine ⟨.pointer (some ⟨g,off'+off,none⟩), ?_,hx0.fptr_drop off⟩
  simp[Instr.fieldAt,run_underlying h1,h2,Instr.sureAddr,fieldPlace,hsz,h3,add_addr]
 ·simp at h
theorem flat_at {vs:List AV} {s i:Nat} (hw:∀v∈vs,v.cells.length=s) {v:AV} (hi:vs[i]?=some v) (j:Nat) (c:AV) (hc:v.cells[j]?=some c):(flat vs)[i*s+j]?=some c:=by
 induction vs generalizing i with
 |nil=>simp at hi
 |cons x xs ih=>
  have hx:x.cells.length=s:=hw x (by simp)
  cases i with
  |zero=>
   simp at hi;subst hi
   have:j<x.cells.length:=(List.getElem?_eq_some_iff.1 hc).1
   simp only[flat,List.flatMap_cons,Nat.zero_mul,Nat.zero_add]
   rw[List.getElem?_append_left this];exact hc
  |succ i=>
   simp at hi
   have:=ih (fun v hv=>hw v (by simp[hv])) hi
   simp only[flat,List.flatMap_cons] at this⊢
   rw[List.getElem?_append_right (by rw[hx,Nat.succ_mul];omega),hx]
   rw[show (i+1)*s+j-s=i*s+j from by rw[Nat.succ_mul];omega]
   exact this
theorem flat_length {vs:List AV} {s:Nat} (hw:∀v∈vs,v.cells.length=s):(flat vs).length=vs.length*s:=by
 induction vs with
 |nil=>simp[flat]
 |cons x xs ih=>
  have:=ih (fun v hv=>hw v (by simp[hv]))
  simp only[flat,List.flatMap_cons,List.length_append,List.length_cons] at this⊢
  rw[this,hw x (by simp),Nat.succ_mul];omega
def asIntA:AV→Option Int
 | .lit (.int _ n)=>some n
 |_=>none
def aIndexAddr (P:Program) (t:TypeId) (a ix:AV):Option AV:=
 match ix with
 | .lit (.int _ i)=>
  if 0≤i then
   match tElem P t with
   |some e=>match tSize P e with
    |some s=>match a with
     | .list _ sz vs=>if sz=s then (vs[i.toNat]?).map fun v=> .fptr v.cells else none
     | .lit (.slice (some ⟨o,off,none⟩) len _)=>if i<len then some (.lit (.pointer (some ⟨o,off+i.toNat*s,none⟩))) else none
     | .row o len=>if i<len then some (.lit (.pointer (some ⟨o,i.toNat*s,none⟩))) else none
     |_=>none
    |none=>none
   |none=>match tArr P t with
    |some (n,e)=>match tSize P e with
     |some s=>if i<n then (match a with
      | .lit (.pointer (some ⟨o,off,none⟩))=>some (.lit (.pointer (some ⟨o,off+i.toNat*s,none⟩)))
      | .fptr cs=>some (.fptr (cs.drop (i.toNat*s)))
      |_=>none) else none
     |none=>none
    |none=>none
  else none
 |_=>none
theorem aIndexAddr_sound {P:Program} {F:Frz} {w:World} {t:TypeId} {a ix v:AV} {x y:Value} (h:aIndexAddr P t a ix=some v) (hx:VR F a x) (hy:VR F ix y):
  ∃cv,(Instr.indexAt t x y).run P w= .ok cv w∧VR F v cv:=by
 unfold aIndexAddr at h
 split at h
 case h_2=>simp at h
 rename_i k i
 cases hy
 split at h
 case isFalse=>simp at h
 rename_i h0
 split at h
 ·rename_i e he
  split at h
  case h_2=>simp at h
  rename_i s hs
  have hu:=under_elem he
  split at h
  ·rename_i own sz vs
   split at h
   case isFalse=>simp at h
   rename_i hsz;subst hsz
   cases hvi:vs[i.toNat]? with
   |none=>simp[hvi] at h
   |some v'=>
    simp[hvi] at h;subst h
    have hlt:i.toNat<vs.length:=(List.getElem?_eq_some_iff.1 hvi).1
    cases hx with
    |nil=>simp at hlt
    |void=>simp at hlt
    |list _ _ _ g off n cap us hn hc hw hl hF hv=>
     refine ⟨.pointer (some ⟨g,off+i.toNat*sz,none⟩), ?_, ?_⟩
     ·simp[Instr.indexAt,asIntOf,run_underlying hu,h0,hn,show i<(vs.length:Int) from by omega,run_sizeOf hs,add_addr]
     ·have hcell:∀(j:Nat) (c:AV),v'.cells[j]?=some c→(flat vs)[i.toNat*sz+j]?=some c:=fun j c hc=>flat_at hw hvi j c hc
      have hfl:=flat_length hw
      have hvl:v'.cells.length=sz:=hw v' (List.mem_of_getElem? hvi)
      have hmul:(i.toNat+1)*sz≤vs.length*sz:=Nat.mul_le_mul_right _ hlt
      rw[Nat.succ_mul] at hmul
      refine .fptr _ g _ ((us.drop (i.toNat*sz)).take sz) (by simp;omega) (fun j u hu=> ?_) fun j c u hc hu=> ?_
      ·have hj:j<sz:=by have:=(List.getElem?_eq_some_iff.1 hu).1;simp at this;omega
       rw[List.getElem?_take_of_lt hj,List.getElem?_drop] at hu
       have:=hF _ _ hu
       rwa[show off+i.toNat*sz+j=off+(i.toNat*sz+j) from by omega]
      ·have hj:j<sz:=by have:=(List.getElem?_eq_some_iff.1 hu).1;simp at this;omega
       rw[List.getElem?_take_of_lt hj,List.getElem?_drop] at hu
       exact hv _ _ _ (hcell j c hc) hu
  ·rename_i o off len cap
   split at h
   case isFalse=>simp at h
   rename_i hlt
   simp at h;subst h
   cases hx
   refine ⟨_, ?_, .lit _⟩
   simp[Instr.indexAt,asIntOf,run_underlying hu,h0,hlt,run_sizeOf hs,add_addr]
  ·rename_i o len
   split at h
   case isFalse=>simp at h
   rename_i hlt
   simp at h;subst h
   cases hx
   refine ⟨_, ?_, .lit _⟩
   simp[Instr.indexAt,asIntOf,run_underlying hu,h0,hlt,run_sizeOf hs,add_addr]
  ·simp at h
 ·split at h
  case h_2=>simp at h
  rename_i n e he
  split at h
  case h_2=>simp at h
  rename_i s hs
  have hu:=under_arr he
  split at h
  case isFalse=>simp at h
  rename_i hlt
  split at h
  ·rename_i o off
   simp at h;subst h
   cases hx
   refine ⟨_, ?_, .lit _⟩
   simp[Instr.indexAt,asIntOf,run_underlying hu,h0,hlt,run_sizeOf hs,add_addr,Instr.sureAddr]
  ·rename_i cs
   simp at h;subst h
   have hx0:=hx
   cases hx with|fptr _ g off us hl hF hv=> ?_
   refine ⟨_, ?_,hx0.fptr_drop _⟩
   simp[Instr.indexAt,asIntOf,run_underlying hu,h0,hlt,run_sizeOf hs,add_addr,Instr.sureAddr]
  ·simp at h
end Go.AL
namespace Go.AL
open Go Go.RowKit Classical
variable [GL]
set_option linter.unusedSectionVars false
def cutAV (P:Program) (t:TypeId) (cs:List AV) (off:Nat):Option AV:=
 match tAgg P t with
 |some true=>match tSize P t with
  |some s=>some (.agg ((cs.drop off).take s))
  |none=>none
 |some false=>cs[off]?
 |none=>none
theorem part_sound {P:Program} {F:Frz} {w:World} {t:TypeId} {cs:List AV} {us:Array Value} {off:Nat} {v:AV} (h:cutAV P t cs off=some v) (hl:cs.length=us.size) (h1:∀(i:Nat) (u:Value),us[i]?=some u→u.oneCell'=true)
  (hv:∀(i:Nat) (c:AV) (u:Value),cs[i]?=some c→us[i]?=some u→VR F c u):∃cv,(part t us off).run P w= .ok cv w∧VR F v cv:=by
 unfold cutAV at h
 split at h
 ·rename_i hb
  split at h
  case h_2=>simp at h
  rename_i s hs
  simp at h;subst h
  refine ⟨.agg (us.extract off (off+s)),by simp[part,run_isAgg hb,run_sizeOf hs], .agg _ _ ?_ (fun i u hu=> ?_) fun i c u hc hu=> ?_⟩
  ·simp;omega
  ·rw[Array.getElem?_extract] at hu
   split at hu
   ·exact h1 _ _ hu
   ·simp at hu
  ·rw[Array.getElem?_extract] at hu
   split at hu
   ·rename_i hi
    rw[List.getElem?_take_of_lt (by omega),List.getElem?_drop] at hc
    exact hv _ _ _ hc hu
   ·simp at hu
 ·rename_i hb
  have hlt:=(List.getElem?_eq_some_iff.1 h).1
  have hu:us[off]?=some (us[off]'(by omega)):=by simp
  exact ⟨_,by simp[part,run_isAgg hb,hu],hv _ _ _ h hu⟩
 ·simp at h
inductive Leaf where
 |int|bool|str
 deriving DecidableEq
def leavesF (P:Program) (go:TypeId→Option (List Leaf)):Nat→List Field→Option (List Leaf)
 |_,[]=>some []
 |off,f::fs=>if f.name≠ "_" ∧f.offset=off then (match go f.type with
  |some l=>(leavesF P go (off+l.length) fs).map (l++·)
  |none=>none) else none
def leaves (P:Program):Nat→TypeId→Option (List Leaf)
 |0,_=>none
 |d+1,t=>match P.underlying t with
  |some (.int _)=>if tAgg P t=some false then some [.int] else none
  |some .bool=>if tAgg P t=some false then some [.bool] else none
  |some .string=>if tAgg P t=some false then some [.str] else none
  |some (.struct fs)=>match leavesF P (leaves P d) 0 fs.toList with
   |some l=>if P.stoodInHeld t=false∧tAgg P t=some true∧tSize P t=some l.length then some l else none
   |none=>none
  |some (.array n e)=>match leaves P d e with
   |some l=>if tAgg P t=some true∧tSize P t=some (n*l.length)∧tSize P e=some l.length then some (List.replicate n l).flatten else none
   |none=>none
  |_=>none
def eqLeaf:Leaf→AV→AV→Option Bool
 | .int, .lit (.int k a), .lit (.int k' b)=>if k=k' then some (a==b) else none
 | .bool, .lit (.bool a), .lit (.bool b)=>some (a==b)
 | .str, .lit (.string a), .lit (.string b)=>some (a.toList==b.toList)
 |_,_,_=>none
def eqLits:List Leaf→List AV→List AV→Option Bool
 |[],_,_=>some true
 |k::ls,x::xs,y::ys=>match eqLeaf k x y,eqLits ls xs ys with
  |some a,some b=>some (a&&b)
  |_,_=>none
 |_,_,_=>none
theorem eqLits_nil (xs ys:List AV):eqLits [] xs ys=some true:=by cases xs<;>cases ys<;>rfl
theorem eqLits_cons {k:Leaf} {ls:List Leaf} {x y:AV} {xs ys:List AV} {r:Bool} (h:eqLits (k::ls) (x::xs) (y::ys)=some r):∃a b,eqLeaf k x y=some a∧eqLits ls xs ys=some b∧r=(a&&b):=by
 rw[eqLits] at h
 split at h
 ·rename_i a b h1 h2;exact ⟨a,b,h1,h2,by simpa using h.symm⟩
 ·cases h
theorem eqLits_append:∀(l1 l2:List Leaf) (xs ys:List AV) {r:Bool},eqLits (l1++l2) xs ys=some r→∃r1 r2,eqLits l1 xs ys=some r1∧eqLits l2 (xs.drop l1.length) (ys.drop l1.length)=some r2∧r=(r1&&r2)
 |[],l2,xs,ys,r,h=>⟨true,r,eqLits_nil ..,by simpa using h,by simp⟩
 |k::l1,l2,[],ys,r,h=>by simp[eqLits] at h
 |k::l1,l2,x::xs,[],r,h=>by simp[eqLits] at h
 |k::l1,l2,x::xs,y::ys,r,h=>by
  obtain ⟨a,b,h1,h2,h3⟩:=eqLits_cons h
  obtain ⟨r1,r2,q1,q2,q3⟩:=eqLits_append l1 l2 xs ys h2
  exact ⟨a&&r1,r2,by simp[eqLits,h1,q1],by simpa using q2,by rw[h3,q3,Bool.and_assoc]⟩
theorem eqLits_take:∀(ls:List Leaf) (xs ys:List AV),eqLits ls (xs.take ls.length) (ys.take ls.length)=eqLits ls xs ys
 |[],xs,ys=>by rw[eqLits_nil,eqLits_nil]
 |k::ls,[],ys=>by simp[eqLits]
 |k::ls,x::xs,[]=>by simp[eqLits]
 |k::ls,x::xs,y::ys=>by
  simp only[List.length_cons,List.take_succ_cons,eqLits]
  rw[eqLits_take ls xs ys]
def CellsOf (F:Frz) (cs:List AV) (us:Array Value):Prop:=cs.length=us.size∧(∀(i:Nat) (u:Value),us[i]?=some u→u.oneCell'=true)∧∀(i:Nat) (c:AV) (u:Value),cs[i]?=some c→us[i]?=some u→VR F c u
def ValOf (P:Program) (F:Frz) (t:TypeId) (n:Nat) (cs:List AV) (x:Value):Prop:=
 (tAgg P t=some true∧cs.length=n∧∃us,x= .agg us∧CellsOf F cs us)∨(tAgg P t=some false∧n=1∧∃c,cs=[c]∧VR F c x)
theorem part_val {P:Program} {F:Frz} {w:World} {t:TypeId} {n off:Nat} {cs:List AV} {us:Array Value} (hc:CellsOf F cs us) (hs:(tAgg P t=some true∧tSize P t=some n)∨(tAgg P t=some false∧n=1)) (hl:off+n≤cs.length):
  ∃v,(part t us off).run P w= .ok v w∧ValOf P F t n ((cs.drop off).take n) v:=by
 obtain ⟨h1,h2,h3⟩:=hc
 rcases hs with ⟨hb,hs⟩|⟨hb,rfl⟩
 ·refine ⟨.agg (us.extract off (off+n)),by simp[part,run_isAgg hb,run_sizeOf hs], .inl ⟨hb,by simp;omega,_,rfl,by simp;omega,fun i u hu=> ?_,fun i c u hc hu=> ?_⟩⟩
  ·rw[Array.getElem?_extract] at hu
   split at hu
   ·exact h2 _ _ hu
   ·simp at hu
  ·rw[Array.getElem?_extract] at hu
   split at hu
   ·rename_i hi
    rw[List.getElem?_take_of_lt (by omega),List.getElem?_drop] at hc
    exact h3 _ _ _ hc hu
   ·simp at hu
 ·have hlt:off<cs.length:=by omega
  have hu:us[off]?=some (us[off]'(by omega)):=by simp
  refine ⟨_,by simp[part,run_isAgg hb,hu], .inr ⟨hb,rfl,cs[off], ?_,h3 _ _ _ (List.getElem?_eq_getElem hlt) hu⟩⟩
  rw[List.drop_eq_getElem_cons hlt];rfl
theorem leaves_kind {P:Program} {d:Nat} {t:TypeId} {ls:List Leaf} (h:leaves P d t=some ls):(tAgg P t=some true∧tSize P t=some ls.length)∨(tAgg P t=some false∧ls.length=1):=by
 cases d with
 |zero=>cases h
 |succ d=>
  unfold leaves at h
  split at h
  ·split at h
   ·rename_i hb;simp at h;subst h;exact .inr ⟨hb,rfl⟩
   ·cases h
  ·split at h
   ·rename_i hb;simp at h;subst h;exact .inr ⟨hb,rfl⟩
   ·cases h
  ·split at h
   ·rename_i hb;simp at h;subst h;exact .inr ⟨hb,rfl⟩
   ·cases h
  ·split at h
   ·split at h
    ·rename_i hb;simp at h;subst h;exact .inl hb.2
    ·cases h
   ·cases h
  ·split at h
   ·rename_i l _
    split at h
    ·rename_i hb;simp at h;subst h;exact .inl ⟨hb.1,by rw[hb.2.1];simp⟩
    ·cases h
   ·cases h
  ·cases h
def EqOk (P:Program) (d:Nat) (t:TypeId) (ls:List Leaf):Prop:=
 ∀(dd:Nat) (F:Frz) (w:World) (cs ds:List AV) (x y:Value) (r:Bool),ValOf P F t ls.length cs x→ValOf P F t ls.length ds y→eqLits ls cs ds=some r→(Op.equalIn (dd+d) t x y).run P w= .ok r w
theorem eqFields_ok {P:Program} {d:Nat} (ih:∀t ls,leaves P d t=some ls→EqOk P d t ls):∀(fs:List Field) (off:Nat) (ls:List Leaf),leavesF P (leaves P d) off fs=some ls→∀(dd:Nat) (F:Frz) (w:World) (cs ds:List AV) (us vs:Array Value) (r:Bool),
  CellsOf F cs us→CellsOf F ds vs→off+ls.length≤cs.length→off+ls.length≤ds.length→eqLits ls (cs.drop off) (ds.drop off)=some r→(Op.eqFields (dd+d) us vs fs).run P w= .ok r w
 |[],off,ls,h,dd,F,w,cs,ds,us,vs,r,h1,h2,h3,h4,he=>by
  simp[leavesF] at h;subst h
  rw[eqLits_nil] at he
  have:r=true:=by simpa using he.symm
  subst this;rfl
 |f::fs,off,ls,h,dd,F,w,cs,ds,us,vs,r,h1,h2,h3,h4,he=>by
  unfold leavesF at h
  split at h
  case isFalse=>cases h
  rename_i hn
  split at h
  case h_2=>cases h
  rename_i l hl
  cases hr:leavesF P (leaves P d) (off+l.length) fs with
  |none=>simp[hr] at h
  |some l2=>
   simp[hr] at h;subst h
   rw[List.length_append] at h3 h4
   obtain ⟨r1,r2,q1,q2,q3⟩:=eqLits_append _ _ _ _ he
   rw[List.drop_drop] at q2
   rw[List.drop_drop] at q2
   obtain ⟨a,pa,va⟩:=part_val (w:=w) (t:=f.type) (off:=off) h1 (leaves_kind hl) (by omega)
   obtain ⟨b,pb,vb⟩:=part_val (w:=w) (t:=f.type) (off:=off) h2 (leaves_kind hl) (by omega)
   have e1:=ih f.type l hl dd F w _ _ a b r1 va vb (by rw[eqLits_take];exact q1)
   have e2:=eqFields_ok ih fs _ _ hr dd F w cs ds us vs r2 h1 h2 (by omega) (by omega) q2
   simp only[Op.eqFields,if_pos hn.1,Sem.run_bind,hn.2,pa,pb,Result.andThen_ok,e1]
   cases r1
   ·simp[q3]
   ·simpa[q3] using e2
theorem leaves_ok {P:Program} :∀(d:Nat) (t:TypeId) (ls:List Leaf),leaves P d t=some ls→EqOk P d t ls
 |0,t,ls,h=>by cases h
 |d+1,t,ls,h=>by
  intro dd F w cs ds x y r hx hy he
  have scal:tAgg P t=some false→ls.length=1→∃a b,cs=[a]∧ds=[b]∧VR F a x∧VR F b y:=fun hb hl=>by
   rcases hx with ⟨h',_⟩|⟨_,_,a,rfl,ha⟩
   ·rw[hb] at h';cases h'
   ·rcases hy with ⟨h',_⟩|⟨_,_,b,rfl,hb'⟩
    ·rw[hb] at h';cases h'
    ·exact ⟨a,b,rfl,rfl,ha,hb'⟩
  have leaf:∀ {k:Leaf},tAgg P t=some false→ls=[k]→∃a b,cs=[a]∧ds=[b]∧VR F a x∧VR F b y∧eqLeaf k a b=some r:=fun {k} hb hl=>by
   subst hl
   obtain ⟨a,b,rfl,rfl,ha,hb'⟩:=scal hb rfl
   obtain ⟨r1,r2,q1,q2,q3⟩:=eqLits_cons he
   rw[eqLits_nil] at q2
   obtain rfl:true=r2:=by simpa using q2
   exact ⟨a,b,rfl,rfl,ha,hb',by rw[q3];simpa using q1⟩
  unfold leaves at h
  split at h
  ·rename_i q hu
   split at h
   case isFalse=>cases h
   rename_i hb
   obtain ⟨a,b,rfl,rfl,ha,hb,hq⟩:=leaf hb (by simpa using h.symm)
   unfold eqLeaf at hq
   split at hq<;>first|(rename_i heq;cases heq;done)|(rename_i heq _ _;cases heq;done)|(rename_i heq _;cases heq;done)|(cases hq;done)|skip
   split at hq
   case isFalse=>cases hq
   rename_i hk;subst hk
   simp at hq;subst hq
   cases ha;cases hb
   exact run_equalIn_int w _ t _ q _ _ hu
  ·rename_i hu
   split at h
   case isFalse=>cases h
   rename_i hb
   obtain ⟨a,b,rfl,rfl,ha,hb,hq⟩:=leaf hb (by simpa using h.symm)
   unfold eqLeaf at hq
   split at hq<;>first|(rename_i heq;cases heq;done)|(rename_i heq _ _;cases heq;done)|(rename_i heq _;cases heq;done)|(cases hq;done)|skip
   simp at hq;subst hq
   cases ha;cases hb
   exact run_equalIn_bool' w _ t _ _ hu
  ·rename_i hu
   split at h
   case isFalse=>cases h
   rename_i hb
   obtain ⟨a,b,rfl,rfl,ha,hb,hq⟩:=leaf hb (by simpa using h.symm)
   unfold eqLeaf at hq
   split at hq<;>first|(rename_i heq;cases heq;done)|(rename_i heq _ _;cases heq;done)|(rename_i heq _;cases heq;done)|(cases hq;done)|skip
   simp at hq;subst hq
   cases ha;cases hb
   rw[show dd+(d+1)=(dd+d)+1 from rfl,run_equalIn_string w _ t _ _ hu]
  ·rename_i fs hu
   split at h
   case h_2=>cases h
   rename_i l hl
   split at h
   case isFalse=>cases h
   rename_i hb
   simp at h;subst h
   have agg:∀ {cs:List AV} {x:Value},ValOf P F t l.length cs x→cs.length=l.length∧∃us,x= .agg us∧CellsOf F cs us:=fun h=>by
    rcases h with ⟨_,h⟩|⟨h',_⟩
    ·exact h
    ·rw[hb.2.1] at h';cases h'
   obtain ⟨l1,us,rfl,h1⟩:=agg hx
   obtain ⟨l2,vs,rfl,h2⟩:=agg hy
   have hfs:P.fieldsOf t=fs:=by simp[Program.fieldsOf,hu]
   rw[show dd+(d+1)=(dd+d)+1 from rfl,run_equalIn_struct w _ t us vs (by rw[hfs];exact hu) hb.1,hfs]
   exact eqFields_ok (fun t ls h=>leaves_ok d t ls h) fs.toList 0 l hl dd F w cs ds us vs r h1 h2 (by omega) (by omega) (by simpa using he)
  ·rename_i n e hu
   split at h
   case h_2=>cases h
   rename_i l hl
   split at h
   case isFalse=>cases h
   rename_i hb
   simp at h;subst h
   have agg:∀ {cs:List AV} {x:Value},ValOf P F t (List.replicate n l).flatten.length cs x→cs.length=n*l.length∧∃us,x= .agg us∧CellsOf F cs us:=fun h=>by
    rcases h with ⟨_,h⟩|⟨h',_⟩
    ·exact ⟨by rw[h.1];simp,h.2⟩
    ·rw[hb.1] at h';cases h'
   obtain ⟨l1,us,rfl,h1⟩:=agg hx
   obtain ⟨l2,vs,rfl,h2⟩:=agg hy
   obtain ⟨i,hi,hsz⟩:∃i,P.info? e=some i∧i.size=l.length:=by
    have:=hb.2.2
    unfold tSize at this
    cases hq:P.info? e with
    |none=>simp[hq] at this
    |some i=>exact ⟨i,rfl,by simpa[hq] using this⟩
   have hce:P.cellsOf e=l.length:=by simp[Program.cellsOf,hi,hsz]
   rw[show dd+(d+1)=(dd+d)+1 from rfl,run_equalIn_array w _ us vs hu hi,hce]
   have key:∀(m k:Nat) (r:Bool),k+m=n→eqLits (List.replicate m l).flatten (cs.drop (k*l.length)) (ds.drop (k*l.length))=some r→(Op.eqItems (dd+d) e l.length us vs (List.range' k m)).run P w= .ok r w:=by
    intro m
    induction m with
    |zero=>
     intro k r _ he
     simp[eqLits_nil] at he
     subst he;rfl
    |succ m ihm=>
     intro k r hk he
     rw[List.replicate_succ,List.flatten_cons] at he
     obtain ⟨r1,r2,q1,q2,q3⟩:=eqLits_append _ _ _ _ he
     rw[List.drop_drop,List.drop_drop,←Nat.succ_mul] at q2
     have hle:k*l.length+l.length≤n*l.length:=by
      rw[←Nat.succ_mul];exact Nat.mul_le_mul_right _ (by omega)
     obtain ⟨a,pa,va⟩:=part_val (w:=w) (t:=e) (off:=k*l.length) h1 (leaves_kind hl) (by omega)
     obtain ⟨b,pb,vb⟩:=part_val (w:=w) (t:=e) (off:=k*l.length) h2 (leaves_kind hl) (by omega)
     have e1:=leaves_ok d e l hl dd F w _ _ a b r1 va vb (by rw[eqLits_take];exact q1)
     have e2:=ihm (k+1) r2 (by omega) q2
     rw[List.range'_succ]
     simp only[Op.eqItems,Sem.run_bind,pa,pb,Result.andThen_ok,e1]
     cases r1
     ·simp[q3]
     ·simpa[q3] using e2
   have:=key n 0 r (by omega) (by simpa using he)
   rwa[←List.range_eq_range'] at this
  ·cases h
end Go.AL
namespace Go.AL
open Go Go.RowKit Classical
variable [GL]
set_option linter.unusedSectionVars false
def eqNil (P:Program) (t:TypeId) (a b:AV):Option Bool:=
 match P.underlying t,a,b with
 |some (.pointer _), .lit (.pointer none), .lit (.pointer b)=>some b.isNone
 |some (.pointer _), .lit (.pointer (some _)), .lit (.pointer none)=>some false
 |some (.pointer _), .fptr _, .lit (.pointer none)=>some false
 |some .bool, .lit (.bool x), .lit (.bool y)=>some (x==y)
 |some (.slice _), .list _ _ (_::_), .lit (.slice none 0 0)=>some false
 |some (.slice _), .lit (.slice (some _) _ _), .lit (.slice none _ _)=>some false
 |some (.func ..), .func .., .lit .nilFunc=>some false
 |some (.func ..), .lit .nilFunc, .lit .nilFunc=>some true
 |some (.interface _), .iface .., .lit .nilIface=>some false
 |_,_,_=>none
def nilBin (P:Program) (op:BinOp) (t:TypeId) (a b:AV):Option AV:=
 match op with
 | .eql=>(eqNil P t a b).map fun r=> .lit (.bool r)
 | .neq=>(eqNil P t a b).map fun r=> .lit (.bool (!r))
 |_=>none
def tEq (P:Program) (t:TypeId):Option (List Leaf):=if P.eqGuardType P.depth t=false∧tAgg P t=some true then leaves P 8 t else none
def aggBin (P:Program) (op:BinOp) (t:TypeId) (cs ds:List AV):Option AV:=
 match tEq P t with
 |some ls=>if cs.length=ls.length∧ds.length=ls.length then (match op with
  | .eql=>(eqLits ls cs ds).map fun r=> .lit (.bool r)
  | .neq=>(eqLits ls cs ds).map fun r=> .lit (.bool (!r))
  |_=>none) else none
 |none=>none
def aBin (P:Program) (op:BinOp) (t:TypeId) (a b:AV):Option AV:=
 match a,b with
 | .agg cs, .agg ds=>aggBin P op t cs ds
 | .lit x, .lit y=>match pureBin op x y with
  |some v=>some (.lit v)
  |none=>nilBin P op t (.lit x) (.lit y)
 |a,b=>nilBin P op t a b
theorem eqNil_sound {P:Program} {F:Frz} {w:World} {t:TypeId} {a b:AV} {x y:Value} {r:Bool} (h:eqNil P t a b=some r) (hx:VR F a x) (hy:VR F b y) (ox oy:Operand):
  (∀op,(eqGuard op t ox oy x y).run P w= .ok () w)∧(∀d,(Op.equalIn (d+1) t x y).run P w= .ok r w)∧binOp .eql t x y=(do pure (.bool (←Op.equal t x y)))∧binOp .neq t x y=(do pure (.bool (!(←Op.equal t x y)))):=by
 unfold eqNil at h
 split at h
 all_goals first
  |(cases h;done)
  |(rename_i hu
    simp only[Option.some.injEq] at h;subst h
    cases hx;cases hy
    refine ⟨fun op=>by cases op<;>rfl,fun d=> ?_, ?_, ?_⟩<;>first
      |rfl
      |(simp[Op.equalIn,run_underlying hu];done))
  |(rename_i hu
    simp only[Option.some.injEq] at h;subst h
    cases hx with
    |list _ _ _ _ _ _ _ us hn=> ?_
    cases hy with
    |lit=> ?_
    refine ⟨fun op=>by cases op<;>rfl,fun d=> ?_, ?_, ?_⟩<;>first
      |rfl
      |(simp[Op.equalIn,run_underlying hu];done))
theorem aggBin_sound {P:Program} {F:Frz} {w:World} {op:BinOp} {t:TypeId} {cs ds:List AV} {v:AV} {x y:Value} (h:aggBin P op t cs ds=some v) (hx:VR F (.agg cs) x) (hy:VR F (.agg ds) y) (ox oy:Operand):
  ∃cv,(do eqGuard op t ox oy x y;binOp op t x y:Sem Value).run P w= .ok cv w∧VR F v cv:=by
 cases hx with|agg _ us hl ho hv=> ?_
 cases hy with|agg _ vs hl2 ho2 hv2=> ?_
 unfold aggBin at h
 split at h
 case h_2=>cases h
 rename_i ls hls
 unfold tEq at hls
 split at hls
 case isFalse=>cases hls
 rename_i hg
 split at h
 case isFalse=>cases h
 rename_i hlen
 have hval:=fun r he=>leaves_ok 8 t ls hls 9992 F w cs ds (.agg us) (.agg vs) r (.inl ⟨hg.2,hlen.1,us,rfl,hl,ho,hv⟩) (.inl ⟨hg.2,hlen.2,vs,rfl,hl2,ho2,hv2⟩) he
 have hgu:=fun op=>run_eqGuard_agg (P:=P) w op t ox oy us vs hg.1
 split at h
 ·cases hr:eqLits ls cs ds with
  |none=>simp[hr] at h
  |some r=>
   simp[hr] at h;subst h
   have:=hval r hr
   refine ⟨.bool r, ?_, .lit _⟩
   simp only[Sem.run_bind,hgu,Result.andThen_ok,run_eql_struct]
   rw[this];rfl
 ·cases hr:eqLits ls cs ds with
  |none=>simp[hr] at h
  |some r=>
   simp[hr] at h;subst h
   have:=hval r hr
   refine ⟨.bool (!r), ?_, .lit _⟩
   simp only[Sem.run_bind,hgu,Result.andThen_ok,run_neq_struct]
   rw[this];rfl
 ·cases h
theorem aggBin_plain {P:Program} {op:BinOp} {t:TypeId} {cs ds:List AV} {v:AV} (h:aggBin P op t cs ds=some v):v.plain=true:=by
 unfold aggBin at h
 split at h
 case h_2=>cases h
 split at h
 case isFalse=>cases h
 split at h
 ·rw[Option.map_eq_some_iff] at h;obtain ⟨r,_,rfl⟩:=h;rfl
 ·rw[Option.map_eq_some_iff] at h;obtain ⟨r,_,rfl⟩:=h;rfl
 ·cases h
theorem aBin_sound {P:Program} {F:Frz} {w:World} {op:BinOp} {t:TypeId} {a b v:AV} {x y:Value} (h:aBin P op t a b=some v) (hx:VR F a x) (hy:VR F b y) (ox oy:Operand):
  ∃cv,(do eqGuard op t ox oy x y;binOp op t x y:Sem Value).run P w= .ok cv w∧VR F v cv:=by
 have nilCase:nilBin P op t a b=some v→∃cv,(do eqGuard op t ox oy x y;binOp op t x y:Sem Value).run P w= .ok cv w∧VR F v cv:=by
  intro h
  unfold nilBin at h
  cases hr:eqNil P t a b with
  |none=>cases op<;>simp[hr] at h
  |some r=>
   obtain ⟨h1,h2,h4,h5⟩:=eqNil_sound (w:=w) hr hx hy ox oy
   have h2':(Op.equal t x y).run P w= .ok r w:=h2 9999
   cases op<;>first
    |(simp at h;done)
    |(simp[hr] at h;subst h
      first
        |exact ⟨_,by simp only[Sem.run_bind,h1,Result.andThen_ok,h4,h2'];rfl, .lit _⟩
        |exact ⟨_,by simp only[Sem.run_bind,h1,Result.andThen_ok,h5,h2'];rfl, .lit _⟩)
 unfold aBin at h
 split at h
 ·exact aggBin_sound h hx hy ox oy
 ·split at h
  ·rename_i v' hp
   simp at h;subst h
   cases hx;cases hy
   exact ⟨_,pureBin_sound hp w, .lit _⟩
  ·exact nilCase h
 ·exact nilCase h
def bndA (o:Option AV) (dflt:Nat):Option Nat:=
 match o with
 |none=>some dflt
 |some (.lit (.int _ i))=>if 0≤i then some i.toNat else none
 |_=>none
def aSlice (P:Program) (t:TypeId) (a:AV) (lo hi mx:Option AV):Option AV:=
 match tElem P t with
 |some e=>match tSize P e with
  |some s=>match a with
   | .list _ sz vs=>match bndA lo 0,bndA hi vs.length,bndA mx vs.length with
    |some l,some h,some m=>if sz=s∧l≤h∧h≤m∧m≤vs.length∧(mx.isSome→hi.isSome) then some (.list false sz ((vs.take h).drop l)) else none
    |_,_,_=>none
   | .lit (.slice base len cap)=>match bndA lo 0,bndA hi len,bndA mx cap with
    |some l,some h,some m=>if l≤h∧h≤m∧m≤cap∧(mx.isSome→hi.isSome) then some (.lit (.slice (if m=l then base else base.map (·.add (l*s))) (h-l) (m-l))) else none
    |_,_,_=>none
   |_=>none
  |none=>none
 |none=>if tStr P t then match a with
  | .lit (.string b)=>match bndA lo 0,bndA hi b.size with
   |some l,some h=>if l≤h∧h≤b.size∧mx.isNone then some (.lit (.string (b.extract l h))) else none
   |_,_=>none
  |_=>none
  else none
theorem run_bound {P:Program} {w:World} {k:IntKind} {i:Int} {y:Nat} {code:BoundsCode} (h0:0≤i) (h:i.toNat≤y):(Instr.sliceBound (.int k i) y code).run P w= .ok i.toNat w:=by
 simp[Instr.sliceBound,asIntOf,h0,show i≤(y:Int) from by omega]
def OptVR (F:Frz) (a:Option AV) (v:Option Value):Prop:=
 match a,v with
 |none,none=>True
 |some a,some v=>VR F a v
 |_,_=>False
theorem run_bounds {P:Program} {F:Frz} {w:World} {isSlice:Bool} {len cap:Nat} {lo hi mx:Option AV} {lo' hi' mx':Option Value} (h1:OptVR F lo lo') (h2:OptVR F hi hi') (h3:OptVR F mx mx')
  {l h m m':Nat} (b1:bndA lo 0=some l) (b2:bndA hi len=some h) (b3:bndA mx m'=some m) (hlh:l≤h) (hhm:h≤m) (hmc:m≤cap) (hmi:mx.isSome→hi.isSome):
  (Instr.sliceBounds isSlice len cap lo' hi' mx').run P w= .ok (l,h,if mx.isSome then m else cap) w:=by
 have op:∀ {o:Option AV} {v:Option Value} {d r:Nat},OptVR F o v→bndA o d=some r→(o=none∧v=none∧r=d)∨∃k i,o=some (.lit (.int k i))∧v=some (.int k i)∧0≤i∧r=i.toNat:=by
  intro o v d r hv hb
  cases o with
  |none=>cases v with
   |none=>simp[bndA] at hb;exact .inl ⟨rfl,rfl,hb.symm⟩
   |some v=>exact hv.elim
  |some a=>cases v with
   |none=>exact hv.elim
   |some v=>
    unfold bndA at hb
    split at hb
    ·simp_all
    ·rename_i k i heq
     split at hb
     ·simp at hb heq;subst heq;cases hv;exact .inr ⟨k,i,rfl,rfl,by assumption,hb.symm⟩
     ·simp at hb
    ·simp at hb
 rcases op h3 b3 with ⟨rfl,rfl,rfl⟩|⟨k3,i3,rfl,rfl,p3,rfl⟩<;>rcases op h2 b2 with ⟨rfl,rfl,rfl⟩|⟨k2,i2,rfl,rfl,p2,rfl⟩<;>rcases op h1 b1 with ⟨rfl,rfl,rfl⟩|⟨k1,i1,rfl,rfl,p1,rfl⟩
 all_goals first
  |(simp at hmi;done)
  |(cases isSlice<;>simp (disch:=first|assumption|omega) [Instr.sliceBounds,run_bound,Sem.run_bind])
theorem VR.list_cut {F:Frz} {own:Bool} {sz:Nat} {vs:List AV} {g off n cap:Nat} (h:VR F (.list own sz vs) (.slice (some ⟨g,off,none⟩) n cap)) {l hh m:Nat} (h1:l≤hh) (h2:hh≤vs.length) (h3:hh≤m):
  VR F (.list false sz ((vs.take hh).drop l)) (.slice (some ⟨g,off+l*sz,none⟩) (hh-l) (m-l)):=by
 cases h with
 |void=>
  have h0:hh=0:=by simpa using h2
  subst h0
  simp only[List.take_nil,List.drop_nil]
  exact .list false sz [] g _ _ _ [] (by simp) (by omega) (by simp) (by simp[flat]) (by simp) (by simp)
 |list _ _ _ _ _ _ _ us hn hc hw hl hF hv=>
 have hmem:∀v∈(vs.take hh).drop l,v.cells.length=sz:=fun v hv=>hw v (List.mem_of_mem_take (List.mem_of_mem_drop hv))
 have hfl:=flat_length hw
 have hfl':=flat_length hmem
 have hflat:flat ((vs.take hh).drop l)=((flat vs).drop (l*sz)).take ((hh-l)*sz):=by
  have key:∀(ys:List AV),(∀v∈ys,v.cells.length=sz)→∀k,flat (ys.take k)=(flat ys).take (k*sz)∧flat (ys.drop k)=(flat ys).drop (k*sz):=by
   intro ys
   induction ys with
   |nil=>intro _ k;simp[flat]
   |cons y ys ih=>
    intro hy k
    cases k with
    |zero=>simp[flat]
    |succ k=>
     have ihk:=ih (fun v hv=>hy v (by simp[hv])) k
     have hy0:=hy y (by simp)
     simp only[flat,List.take_succ_cons,List.drop_succ_cons,List.flatMap_cons] at ihk⊢
     rw[ihk.1,ihk.2,List.take_append,List.drop_append,hy0]
     have e1:(k+1)*sz-sz=k*sz:=by rw[Nat.succ_mul];omega
     have e2:sz≤(k+1)*sz:=by rw[Nat.succ_mul];omega
     rw[e1,List.take_of_length_le (l:=y.cells) (by omega),List.drop_of_length_le (l:=y.cells) (by omega)]
     simp
  rw[(key _ (fun v hv=>hw v (List.mem_of_mem_take hv)) l).2,(key _ hw hh).1,List.drop_take,Nat.sub_mul]
 have hmul:hh*sz≤vs.length*sz:=Nat.mul_le_mul_right _ h2
 have hmul':l*sz≤hh*sz:=Nat.mul_le_mul_right _ h1
 have hsub:(hh-l)*sz=hh*sz-l*sz:=Nat.sub_mul ..
 refine .list false sz _ g _ _ _ ((us.drop (l*sz)).take ((hh-l)*sz)) (by simp;omega) (by omega) hmem ?_ (fun i u hu=> ?_) fun i c u hc' hu=> ?_
 ·rw[hflat];simp;omega
 ·have hi:i<(hh-l)*sz:=by have:=(List.getElem?_eq_some_iff.1 hu).1;simp at this;omega
  rw[List.getElem?_take_of_lt hi,List.getElem?_drop] at hu
  have:=hF _ _ hu
  rwa[show off+l*sz+i=off+(l*sz+i) from by omega]
 ·rw[hflat] at hc'
  have hi:i<(hh-l)*sz:=by have:=(List.getElem?_eq_some_iff.1 hu).1;simp at this;omega
  rw[List.getElem?_take_of_lt hi,List.getElem?_drop] at hc' hu
  exact hv _ _ _ hc' hu
theorem aSlice_sound {P:Program} {F:Frz} {w:World} {t:TypeId} {a v:AV} {lo hi mx:Option AV} {x:Value} {lo' hi' mx':Option Value} (h:aSlice P t a lo hi mx=some v) (hx:VR F a x)
  (h1:OptVR F lo lo') (h2:OptVR F hi hi') (h3:OptVR F mx mx'):∃cv,(Instr.sliceAt t x lo' hi' mx').run P w= .ok cv w∧VR F v cv:=by
 unfold aSlice at h
 split at h
 ·rename_i e he
  split at h
  case h_2=>simp at h
  rename_i s hs
  have hu:=under_elem he
  split at h
  ·rename_i own sz vs
   split at h
   case h_2=>simp at h
   rename_i l hh m b1 b2 b3
   split at h
   case isFalse=>simp at h
   rename_i hc
   obtain ⟨rfl,c1,c2,c3,c4⟩:=hc
   simp at h;subst h
   cases hx with
   |nil=>
    simp at c3;subst c3
    have hh0:hh=0:=by omega
    have hl0:l=0:=by omega
    subst hh0 hl0
    refine ⟨.slice none 0 0, ?_,by simp;exact .nil ..⟩
    have:=run_bounds (P:=P) (w:=w) (isSlice:=true) (cap:=0) h1 h2 h3 b1 b2 b3 (by omega) (by omega) (by omega) c4
    simp only[List.length_nil] at this
    simp[Instr.sliceAt,Instr.slice,run_underlying hu,this,run_sizeOf hs]
   |void=>
    rename_i ad
    simp at c3;subst c3
    have hh0:hh=0:=by omega
    have hl0:l=0:=by omega
    subst hh0 hl0
    refine ⟨.slice (some ad) 0 0, ?_,by simp;exact .void ..⟩
    have:=run_bounds (P:=P) (w:=w) (isSlice:=true) (cap:=0) h1 h2 h3 b1 b2 b3 (by omega) (by omega) (by omega) c4
    simp only[List.length_nil] at this
    simp[Instr.sliceAt,Instr.slice,run_underlying hu,this,run_sizeOf hs]
   |list _ _ _ g off n cap us hn hcap hw hl hF hv=>
    have hx':VR F (.list own sz vs) (.slice (some ⟨g,off,none⟩) n cap):= .list own sz vs g off n cap us hn hcap hw hl hF hv
    have hr:=run_bounds (P:=P) (w:=w) (isSlice:=true) (len:=n) (cap:=cap) h1 h2 h3 b1 (by rw[hn];exact b2) b3 c1 c2 (by omega) c4
    generalize hm:(if mx.isSome then m else cap)=mm at hr
    have hmm:hh≤mm:=by subst hm;split<;>omega
    by_cases hml:mm=l
    ·refine ⟨.slice (some ⟨g,off,none⟩) (hh-l) (mm-l), ?_, ?_⟩
     ·simp[Instr.sliceAt,Instr.slice,run_underlying hu,hr,run_sizeOf hs,hml]
     ·have:hh=l:=by omega
      subst this
      have e0:(vs.take hh).drop hh=[]:=by simp
      rw[e0]
      exact .list false sz [] g off _ _ [] (by simp) (by omega) (by simp) (by simp[flat]) (by simp) (by simp)
    ·refine ⟨.slice (some ⟨g,off+l*sz,none⟩) (hh-l) (mm-l), ?_,hx'.list_cut c1 (by omega) hmm⟩
     simp[Instr.sliceAt,Instr.slice,run_underlying hu,hr,run_sizeOf hs,hml,add_addr]
  ·rename_i base len cap
   split at h
   case h_2=>simp at h
   rename_i l hh m b1 b2 b3
   split at h
   case isFalse=>simp at h
   rename_i hc
   obtain ⟨c1,c2,c3,c4⟩:=hc
   simp at h;subst h
   cases hx
   have hr:=run_bounds (P:=P) (w:=w) (isSlice:=true) (len:=len) (cap:=cap) h1 h2 h3 b1 b2 b3 c1 c2 c3 c4
   have hm:(if mx.isSome then m else cap)=m:=by
    cases mx with
    |none=>simp[bndA] at b3;simp[b3]
    |some _=>simp
   rw[hm] at hr
   refine ⟨_, ?_, .lit _⟩
   simp[Instr.sliceAt,Instr.slice,run_underlying hu,hr,run_sizeOf hs]
  ·simp at h
 ·split at h
  case isFalse=>simp at h
  rename_i hst
  have hu:=under_str hst
  split at h
  case h_2=>simp at h
  rename_i b
  split at h
  case h_2=>simp at h
  rename_i l hh b1 b2
  split at h
  case isFalse=>simp at h
  rename_i hc
  obtain ⟨c1,c2,c3⟩:=hc
  simp at h;subst h
  cases hx
  have hmx:mx=none:=by simpa using c3
  subst hmx
  have hmx':mx'=none:=by cases mx' with
   |none=>rfl
   |some _=>exact h3.elim
  subst hmx'
  have hr:=run_bounds (P:=P) (w:=w) (isSlice:=false) (len:=b.size) (cap:=b.size) (m':=b.size) h1 h2 h3 b1 b2 rfl c1 c2 (Nat.le_refl _) (by simp)
  refine ⟨_, ?_, .lit _⟩
  simp[Instr.sliceAt,Instr.slice,run_underlying hu,hr]
end Go.AL
namespace Go.AL
open Go Go.RowKit Classical
variable [GL]
set_option linter.unusedSectionVars false
def aField (P:Program) (t:TypeId) (f:Nat) (a:AV):Option AV:=
 match tField P t f,a with
 |some (off,ft), .agg cs=>cutAV P ft cs off
 |_,_=>none
theorem aField_sound {P:Program} {F:Frz} {w:World} {t:TypeId} {f:Nat} {a v:AV} {x:Value} (h:aField P t f a=some v) (hx:VR F a x):∃cv,(Instr.field t x f).run P w= .ok cv w∧VR F v cv:=by
 unfold aField at h
 split at h
 case h_2=>simp at h
 rename_i off ft cs hf
 obtain ⟨fs,fl,h1,h2,h3,h4⟩:=under_field hf
 cases hx with|agg _ us hl ho hv=> ?_
 obtain ⟨cv,hr,hvv⟩:=part_sound (w:=w) h hl ho hv
 refine ⟨cv, ?_,hvv⟩
 simp[Instr.field,run_underlying h1,h2,asAgg,h3,h4,hr]
def aIndex (P:Program) (t:TypeId) (a ix:AV):Option AV:=
 match ix with
 | .lit (.int _ i)=>
  if 0≤i then match tArr P t with
   |some (n,e)=>match tSize P e,a with
    |some s, .agg cs=>if i<n then cutAV P e cs (i.toNat*s) else none
    |_,_=>none
   |none=>if tStr P t then match a with
    | .lit (.string b)=>(b.data[i.toNat]?).map fun c=> .lit (.int .u8 c.toNat)
    |_=>none
    else none
  else none
 |_=>none
theorem aIndex_sound {P:Program} {F:Frz} {w:World} {t:TypeId} {a ix v:AV} {x y:Value} (h:aIndex P t a ix=some v) (hx:VR F a x) (hy:VR F ix y):∃cv,(Instr.index t x y).run P w= .ok cv w∧VR F v cv:=by
 unfold aIndex at h
 split at h
 case h_2=>simp at h
 rename_i k i
 cases hy
 split at h
 case isFalse=>simp at h
 rename_i h0
 split at h
 ·rename_i n e he
  split at h
  case h_2=>simp at h
  rename_i s cs hs
  split at h
  case isFalse=>simp at h
  rename_i hlt
  cases hx with|agg _ us hl ho hv=> ?_
  obtain ⟨cv,hr,hvv⟩:=part_sound (w:=w) h hl ho hv
  refine ⟨cv, ?_,hvv⟩
  simp[Instr.index,asIntOf,run_underlying (under_arr he),h0,hlt,run_sizeOf hs,hr]
 ·split at h
  case isFalse=>simp at h
  rename_i hst
  split at h
  case h_2=>simp at h
  rename_i b
  cases hx
  cases hb:b.data[i.toNat]? with
  |none=>simp[hb] at h
  |some c=>
   simp[hb] at h;subst h
   refine ⟨_, ?_, .lit _⟩
   have hb':b[i.toNat]?=some c:=by
    have hlt:=(Array.getElem?_eq_some_iff.1 hb).1
    have hc:=(Array.getElem?_eq_some_iff.1 hb).2
    have:i.toNat<b.size:=hlt
    rw[getElem?_pos b i.toNat this]
    exact congrArg some hc
   simp[Instr.index,asIntOf,run_underlying (under_str hst),h0,hb']
def aLen (P:Program) (t:TypeId) (a:AV):Option AV:=
 match a with
 | .list _ _ vs=>match tElem P t with
  |some _=>some (.lit (.int .i64 vs.length))
  |none=>none
 | .lit (.slice _ n _)=>match tElem P t with
  |some _=>some (.lit (.int .i64 n))
  |none=>none
 | .lit (.string s)=>if tStr P t then some (.lit (.int .i64 s.size)) else none
 | .row _ n=>match tElem P t with
  |some _=>some (.lit (.int .i64 n))
  |none=>none
 |_=>none
theorem aLen_sound {P:Program} {F:Frz} {w:World} {t ty:TypeId} {a v:AV} {x:Value} (h:aLen P t a=some v) (hx:VR F a x):∃cv,(Builtin.len_ #[t] ty #[x]).run P w= .ok cv w∧VR F v cv:=by
 unfold aLen at h
 split at h
 ·split at h
  case h_2=>simp at h
  rename_i e he
  simp at h;subst h
  cases hx with
  |nil=>exact ⟨_,by simp[Builtin.len_,run_underlying (under_elem he),goInt], .lit _⟩
  |void=>exact ⟨_,by simp[Builtin.len_,run_underlying (under_elem he),goInt], .lit _⟩
  |list _ _ _ _ _ n _ us hn=>exact ⟨_,by simp[Builtin.len_,run_underlying (under_elem he),goInt,hn], .lit _⟩
 ·split at h
  case h_2=>simp at h
  rename_i e he
  simp at h;subst h
  cases hx
  exact ⟨_,by simp[Builtin.len_,run_underlying (under_elem he),goInt], .lit _⟩
 ·split at h
  case isFalse=>simp at h
  rename_i hst
  simp at h;subst h
  cases hx
  exact ⟨_,by simp[Builtin.len_,run_underlying (under_str hst),goInt], .lit _⟩
 ·split at h
  case h_2=>simp at h
  rename_i e he
  simp at h;subst h
  cases hx
  exact ⟨_,by simp[Builtin.len_,run_underlying (under_elem he),goInt], .lit _⟩
 ·simp at h
def aMin (a b:AV):Option AV:=
 match a,b with
 | .lit (.int k x), .lit (.int _ y)=>some (.lit (.int k (if y<x then y else x)))
 |_,_=>none
def aMax (a b:AV):Option AV:=
 match a,b with
 | .lit (.int k x), .lit (.int _ y)=>some (.lit (.int k (if y>x then y else x)))
 |_,_=>none
theorem aMin_sound {P:Program} {F:Frz} {w:World} {ts:Array TypeId} {ty:TypeId} {a b v:AV} {x y:Value} (h:aMin a b=some v) (hx:VR F a x) (hy:VR F b y):∃cv,(Builtin.min_ ts ty #[x,y]).run P w= .ok cv w∧VR F v cv:=by
 unfold aMin at h
 split at h
 ·simp at h;subst h;cases hx;cases hy
  exact ⟨_,by simp[Builtin.min_,Builtin.min2], .lit _⟩
 ·simp at h
theorem aMax_sound {P:Program} {F:Frz} {w:World} {ts:Array TypeId} {ty:TypeId} {a b v:AV} {x y:Value} (h:aMax a b=some v) (hx:VR F a x) (hy:VR F b y):∃cv,(Builtin.max_ ts ty #[x,y]).run P w= .ok cv w∧VR F v cv:=by
 unfold aMax at h
 split at h
 ·simp at h;subst h;cases hx;cases hy
  exact ⟨_,by simp[Builtin.max_,Builtin.max2], .lit _⟩
 ·simp at h
def aNilCheck (a:AV):Option AV:=
 match a with
 | .lit (.pointer (some p))=>some (.lit (.pointer (some p)))
 | .fptr cs=>some (.fptr cs)
 | .func (.func f) fs cs=>some (.func (.func f) fs cs)
 |_=>none
def setRange {α:Type} (cs:List α) (off:Nat):List α→List α
 |[]=>cs
 |x::xs=>setRange (cs.set off x) (off+1) xs
theorem setRange_length {α:Type} (xs:List α):∀(cs:List α) (off:Nat),(setRange cs off xs).length=cs.length:=by
 induction xs with
 |nil=>intros;rfl
 |cons x xs ih=>intro cs off;simp[setRange,ih]
theorem setRange_get {α:Type} (xs:List α):∀(cs:List α) (off i:Nat),off+xs.length≤cs.length→(setRange cs off xs)[i]?=if off≤i∧i<off+xs.length then xs[i-off]? else cs[i]?:=by
 induction xs with
 |nil=>intro cs off i _;rw[if_neg (by simp<;>omega)];rfl
 |cons x xs ih=>
  intro cs off i h
  simp only[List.length_cons] at h
  simp only[setRange]
  rw[ih _ _ _ (by simp;omega)]
  by_cases h1:off+1≤i∧i<off+1+xs.length
  ·rw[if_pos h1,if_pos (by simp;omega)]
   rw[show i-off=(i-(off+1))+1 from by omega];simp
  ·rw[if_neg h1,List.getElem?_set]
   by_cases h2:off=i
   ·subst h2
    rw[if_pos rfl,if_pos (by omega),if_pos (by simp)];simp
   ·rw[if_neg h2,if_neg (by simp;omega)]
def tPart (P:Program) (t:TypeId) (i:Nat):Option (Nat×Nat):=
 match tArr P t with
 |some (_,e)=>(tSize P e).map fun s=>(i*s,s)
 |none=>(tField P t i).bind fun p=>(tSize P p.2).map fun s=>(p.1,s)
def fillA (P:Program) (t:TypeId) (cs:List AV):List (Nat×AV)→Option (List AV)
 |[]=>some cs
 |(i,v)::rest=>match tPart P t i with
  |some (off,s)=>if v.solid=true∧v.cells.length=s∧off+s≤cs.length then fillA P t (setRange cs off v.cells) rest else none
  |none=>none
theorem foldl_set (xs:List Value):∀(cs:Array Value) (off k:Nat),((xs.zipIdx k).foldl (fun cs p=>cs.setIfInBounds (off+p.2) p.1) cs).toList=setRange cs.toList (off+k) xs:=by
 induction xs with
 |nil=>intros;rfl
 |cons x xs ih=>intro cs off k;simp only[List.zipIdx_cons,List.foldl_cons,setRange];rw[ih];simp[Nat.add_assoc]
def CellsR (R:AV→Value→Prop) (cs:List AV) (us:List Value):Prop:=cs.length=us.length∧(∀(i:Nat) (u:Value),us[i]?=some u→u.oneCell'=true)∧∀(i:Nat) (c:AV) (u:Value),cs[i]?=some c→us[i]?=some u→R c u
theorem CellsR.setRange {R:AV→Value→Prop} {cs:List AV} {us:List Value} (h:CellsR R cs us) {off:Nat} {xs:List AV} {ys:List Value} (k:CellsR R xs ys) (hle:off+xs.length≤cs.length):
  CellsR R (setRange cs off xs) (Go.AL.setRange us off ys):=by
 obtain ⟨h1,h2,h3⟩:=h
 obtain ⟨k1,k2,k3⟩:=k
 refine ⟨by simp[setRange_length,h1],fun i u hu=> ?_,fun i c u hc hu=> ?_⟩
 ·rw[setRange_get _ _ _ _ (by omega)] at hu
  split at hu
  ·exact k2 _ _ hu
  ·exact h2 _ _ hu
 ·rw[setRange_get _ _ _ _ (by omega)] at hu
  rw[setRange_get _ _ _ _ (by omega)] at hc
  rw[k1] at hc
  split at hu
  ·rename_i hi;rw[if_pos hi] at hc;exact k3 _ _ _ hc hu
  ·rename_i hi;rw[if_neg hi] at hc;exact h3 _ _ _ hc hu
theorem VR.cellsR {F:Frz} {a:AV} {v:Value} (h:VR F a v) (hs:a.solid=true):CellsR (VR F) a.cells v.cells.toList:=by
 obtain ⟨h1,h2⟩:=h.cells hs
 refine ⟨by simpa using h1,fun i u hu=> ?_,fun i c u hc hu=>(h2 i c u hc (by simpa using hu)).2⟩
 have hlt:i<a.cells.length:=by have:=(List.getElem?_eq_some_iff.1 hu).1;simp at this;omega
 exact (h2 i _ u (List.getElem?_eq_getElem hlt) (by simpa using hu)).1
def VRn (F:Frz) (c:AV) (u:Value):Prop:=VR F c u∧(c.plain1=true∨u= .slice none 0 0)
theorem plain1_drop1 (c:AV):c.drop1.plain1=true:=by cases c<;>rfl
theorem VRn.own {F:Frz} {c:AV} {u:Value} (h:VRn F c u) (G:Ghost) (D:Nat→Prop) (π:Place):Own1 G D π c u:=by
 rcases h.2 with h|h
 ·exact Own1.of_plain h
 ·subst h;cases c<;>simp[Own1]
theorem VR.cellsRn {F:Frz} {a:AV} {v:Value} (h:VR F a v) (hs:a.share.solid=true):CellsR (VRn F) a.share.cells v.cells.toList:=by
 obtain ⟨h1,h2,h3⟩:=h.share.cellsR hs
 refine ⟨h1,h2,fun i c u hc hu=>⟨h3 i c u hc hu, .inl ?_⟩⟩
 cases a with
 |agg cs=>
  simp only[AV.share,AV.cells,List.getElem?_map] at hc
  cases hcs:cs[i]? with
  |none=>simp[hcs] at hc
  |some c'=>simp[hcs] at hc;subst hc;exact plain1_drop1 _
 |tuple cs=>simp[AV.share,AV.solid,AV.one] at hs
 |list o s vs=>
  cases i with
  |zero=>simp[AV.share,AV.cells] at hc;subst hc;rfl
  |succ i=>simp[AV.share,AV.cells] at hc
 |_=>
  cases i with
  |zero=>simp[AV.share,AV.cells] at hc;subst hc;rfl
  |succ i=>simp[AV.share,AV.cells] at hc
theorem VR.cellsRn_conv {P:Program} {t:TypeId} {F:Frz} {a:AV} {v:Value} (h:VR F a v) (hs:(conv P t a.share).solid=true):CellsR (VRn F) (conv P t a.share).cells v.cells.toList:=by
 unfold conv at hs⊢
 split at hs
 ·rename_i heq
  rw[heq] at hs⊢
  have hv:v= .slice none 0 0:=by
   have:=h.share
   rw[heq] at this
   cases this;rfl
  subst hv
  split
  ·refine ⟨rfl,fun i u hu=> ?_,fun i c u hc hu=> ?_⟩
   ·cases i with
    |zero=>simp[Value.cells] at hu;subst hu;rfl
    |succ i=>simp[Value.cells] at hu
   ·cases i with
    |zero=>simp[Value.cells,AV.cells] at hu hc;subst hu hc;exact ⟨.nil .., .inr rfl⟩
    |succ i=>simp[Value.cells] at hu
  ·refine ⟨rfl,fun i u hu=> ?_,fun i c u hc hu=> ?_⟩
   ·cases i with
    |zero=>simp[Value.cells] at hu;subst hu;rfl
    |succ i=>simp[Value.cells] at hu
   ·cases i with
    |zero=>simp[Value.cells,AV.cells] at hu hc;subst hu hc;exact ⟨.lit .., .inr rfl⟩
    |succ i=>simp[Value.cells] at hu
 ·exact h.cellsRn hs
theorem fill_sound {P:Program} {t:TypeId} {R:AV→Value→Prop} {place:Nat→Option (Nat×Nat)} (hp:∀i p,tPart P t i=some p→place i=some p):∀(parts:List (Nat×AV)) (parts':List (Nat×Value)) (cs:List AV) (us:Array Value) (r:List AV),
  parts.length=parts'.length→(∀(i:Nat) p q,parts[i]?=some p→parts'[i]?=some q→p.1=q.1∧(p.2.solid=true→CellsR R p.2.cells q.2.cells.toList))→CellsR R cs us.toList→fillA P t cs parts=some r→∃us',Instr.fill place us parts'=some us'∧CellsR R r us'.toList
 |[],[],cs,us,r,_,_,hc,h=>by simp[fillA] at h;subst h;exact ⟨us,rfl,hc⟩
 |[],_::_,_,_,_,hl,_,_,_=>by simp at hl
 |_::_,[],_,_,_,hl,_,_,_=>by simp at hl
 |(i,v)::rest,(i',v')::rest',cs,us,r,hl,hvr,hc,h=>by
  obtain ⟨e1,e2⟩:=hvr 0 _ _ rfl rfl
  simp only at e1 e2;subst e1
  simp only[fillA] at h
  split at h
  case h_2=>simp at h
  rename_i off s hpt
  split at h
  case isFalse=>simp at h
  rename_i hcond
  obtain ⟨c1,c2,c3⟩:=hcond
  have hcv:=e2 c1
  have hsz:v'.cells.size=s:=by have:=hcv.1;simp at this;omega
  have hus:cs.length=us.size:=by simpa using hc.1
  have hset:=hc.setRange (off:=off) hcv (by omega)
  obtain ⟨us',h1,h2⟩:=fill_sound hp rest rest' (setRange cs off v.cells) (v'.cells.zipIdx.foldl (fun cs p=>cs.setIfInBounds (off+p.2) p.1) us) r (by simpa using hl)
   (fun j p q hp hq=>hvr (j+1) p q (by simpa using hp) (by simpa using hq)) (by
    have:=foldl_set v'.cells.toList us off 0
    rw[←Array.foldl_toList]
    simp only[Nat.add_zero,Array.toList_zipIdx] at this⊢
    rw[this];exact hset) h
  refine ⟨us', ?_,h2⟩
  simp only[Instr.fill,hp i _ hpt,hsz]
  rw[if_neg (by simp;omega)]
  exact h1
def byteOf:AV→Option UInt8
 | .lit (.int .u8 n)=>some (UInt8.ofNat n.toNat)
 |_=>none
def bytesOf (vs:List AV):Option (List UInt8):=vs.mapM byteOf
def runeOf:AV→Option Int
 | .lit (.int .i32 n)=>some n
 |_=>none
def runesOf (vs:List AV):Option (List Int):=vs.mapM runeOf
def aConv (P:Program) (src dst:TypeId) (a:AV):Option AV:=
 match tInt P dst,a with
 |some k, .lit (.int _ n)=>if (P.underlying src).isSome then some (.lit (.int k (k.wrap n))) else none
 |none, .lit (.int _ n)=>if (P.underlying src).isSome∧tStr P dst=true then some (.lit (.string (Utf8.encode n))) else none
 |_, .list _ sz vs=>if sz=1∧tStr P dst=true then (match (tElem P src).bind (tInt P) with
  |some .u8=>(bytesOf vs).map fun l=> .lit (.string ⟨l.toArray⟩)
  |some .i32=>(runesOf vs).map fun l=> .lit (.string (runesBytes l))
  |_=>none) else none
 |_,_=>none
theorem runesOf_vals {F:Frz} :∀(vs:List AV) (us:List Value) (l:List Int),runesOf vs=some l→CellsR (VR F) (flat vs) us→us=l.map (fun n=> .int .i32 n)
 |[],us,l,h,hc=>by
  simp[runesOf] at h;subst h;have:=hc.1;simp only[flat,List.flatMap_nil,List.length_nil] at this;have hu:us=[]:=List.eq_nil_of_length_eq_zero this.symm;subst hu;rfl
 |v::vs,us,l,h,hc=>by
  simp only[runesOf,List.mapM_cons] at h
  cases hb:runeOf v with
  |none=>rw[hb] at h;simp at h
  |some b=>
   cases hbs:vs.mapM runeOf with
   |none=>rw[hb,hbs] at h;simp at h
   |some l'=>
    rw[hb,hbs] at h;simp at h;subst h
    have hv:v= .lit (.int .i32 b):=by
     unfold runeOf at hb
     split at hb
     ·simp at hb;subst hb;rfl
     ·simp at hb
    subst hv
    cases us with
    |nil=>have:=hc.1;simp[flat,AV.cells] at this
    |cons u us=>
     have hu:=hc.2.2 0 _ u rfl rfl
     cases hu
     have hf1:=runesOf_vals vs us l' hbs ⟨by have:=hc.1;simp[flat,AV.cells] at this⊢;exact this,fun i u hu=>hc.2.1 (i+1) u (by simpa using hu),fun i c u h1 h2=>hc.2.2 (i+1) c u (by simpa[flat,AV.cells] using h1) (by simpa using h2)⟩
     simp[hf1]
theorem bytesOf_vals {F:Frz} :∀(vs:List AV) (us:List Value) (l:List UInt8),bytesOf vs=some l→CellsR (VR F) (flat vs) us→
  ∃f:List Int,us=f.map (fun n=> .int .u8 n)∧f.map (fun n=>UInt8.ofNat n.toNat)=l
 |[],us,l,h,hc=>by
  simp[bytesOf] at h;subst h;have:=hc.1;simp only[flat,List.flatMap_nil,List.length_nil] at this;have hu:us=[]:=List.eq_nil_of_length_eq_zero this.symm;subst hu;exact ⟨[],rfl,rfl⟩
 |v::vs,us,l,h,hc=>by
  simp only[bytesOf,List.mapM_cons] at h
  cases hb:byteOf v with
  |none=>rw[hb] at h;simp at h
  |some b=>
   cases hbs:vs.mapM byteOf with
   |none=>rw[hb,hbs] at h;simp at h
   |some l'=>
    rw[hb,hbs] at h;simp at h;subst h
    have hv:∃n,v= .lit (.int .u8 n)∧UInt8.ofNat n.toNat=b:=by
     unfold byteOf at hb
     split at hb
     ·simp at hb;exact ⟨_,rfl,hb⟩
     ·simp at hb
    obtain ⟨n,rfl,hn⟩:=hv
    cases us with
    |nil=>have:=hc.1;simp[flat,AV.cells] at this
    |cons u us=>
     have hu:=hc.2.2 0 _ u rfl rfl
     cases hu
     obtain ⟨f,hf1,hf2⟩:=bytesOf_vals vs us l' hbs ⟨by have:=hc.1;simp[flat,AV.cells] at this⊢;exact this,fun i u hu=>hc.2.1 (i+1) u (by simpa using hu),fun i c u h1 h2=>hc.2.2 (i+1) c u (by simpa[flat,AV.cells] using h1) (by simpa using h2)⟩
     exact ⟨n::f,by simp[hf1],by simp[hn,hf2]⟩
theorem aConv_sound {P:Program} {D:Nat→Prop} {G:Ghost} {σ:Store} {w:World} (hW:WR D G σ w) {src dst:TypeId} {a v:AV} {x:Value} (h:aConv P src dst a=some v) (hx:VR G.F a x):∃cv,(convert src dst x).run P w= .ok cv w∧VR G.F v cv:=by
 unfold aConv at h
 split at h
 ·rename_i k _ n hk
  split at h
  case isFalse=>simp at h
  rename_i hs
  simp at h;subst h
  cases hx
  obtain ⟨d,hd⟩:=Option.isSome_iff_exists.1 hs
  refine ⟨_, ?_, .lit _⟩
  cases d<;>simp[convert,run_underlying hd,run_underlying (under_int hk),Conv.intToInt]
 ·rename_i k n hk
  split at h
  case isFalse=>simp at h
  rename_i hs
  simp at h;subst h
  cases hx
  obtain ⟨d,hd⟩:=Option.isSome_iff_exists.1 hs.1
  refine ⟨_, ?_, .lit _⟩
  cases d<;>simp[convert,run_underlying hd,run_underlying (under_str hs.2),Conv.intToString]
 ·rename_i own sz vs
  split at h
  case isFalse=>simp at h
  rename_i hc
  obtain ⟨rfl,hst⟩:=hc
  split at h
  case h_3=>simp at h
  ·rename_i hel
   cases hb:bytesOf vs with
   |none=>simp[hb] at h
   |some l=>
    simp[hb] at h;subst h
    cases he:tElem P src with
    |none=>simp[he] at hel
    |some e=>
     simp[he] at hel
     cases hx with
     |nil=>
      simp[bytesOf] at hb;subst hb
      exact ⟨_,run_convert_bytes_nil w src e (under_elem he) (under_int hel) 0 0 dst (under_str hst), .lit _⟩
     |void=>
      rename_i ad
      simp[bytesOf] at hb;subst hb
      have hl:(loadCells ad 0).run P w= .ok (([]:List Int).map (Value.int .u8)).toArray w:=by simp[loadCells,loadCellsFrom]
      refine ⟨_,by rw[run_convert_bytes_string w src dst e _ 0 0 (under_elem he) (under_int hel) (under_str hst),run_bytesToString w _ 0 0 [] hl];rfl, .lit _⟩
     |list _ _ _ g off n cap us hn hcap hw hl hF hv=>
      obtain ⟨f,hf1,hf2⟩:=bytesOf_vals vs us l hb ⟨hl.symm,fun i u hu=>(hF i u hu).2,hv⟩
      have hfl:=flat_length hw
      have hlen:f.length=n:=by rw[hf1] at hl;simp at hl;omega
      refine ⟨_,run_convert_bytes_arg w src e (under_elem he) (under_int hel) g off n cap f hlen (fun i hi=> ?_) dst (under_str hst), ?_⟩
      ·have hu:us[i]?=some (.int .u8 (f.getD i 0)):=by
        rw[hf1,List.getElem?_map,List.getD_eq_getElem?_getD,List.getElem?_eq_getElem (by omega)];rfl
       obtain ⟨cur,e',fz,q1,q2⟩:=hW.frz _ _ _ (hF i _ hu).1
       rw[cell_of_row w g (off+i) cur e' fz q1];exact q2
      ·have:strOfNums f=⟨l.toArray⟩:=by unfold strOfNums;rw[hf2]
       rw[this];exact .lit _
  ·rename_i hel
   cases hb:runesOf vs with
   |none=>simp[hb] at h
   |some l=>
    simp[hb] at h;subst h
    cases he:tElem P src with
    |none=>simp[he] at hel
    |some e=>
     simp[he] at hel
     cases hx with
     |nil=>
      simp[runesOf] at hb;subst hb
      refine ⟨.string .empty, ?_, .lit _⟩
      rw[run_convert_runes_string w src dst e none 0 0 (under_elem he) (under_int hel) (under_str hst)]
      simp[Conv.runesToString]
     |void=>
      rename_i ad
      simp[runesOf] at hb;subst hb
      have hl:(loadCells ad 0).run P w= .ok (([]:List Int).map (Value.int .i32)).toArray w:=by simp[loadCells,loadCellsFrom]
      exact ⟨_,by rw[run_convert_runes_string w src dst e _ 0 0 (under_elem he) (under_int hel) (under_str hst),run_runesToString w _ 0 0 [] hl], .lit _⟩
     |list _ _ _ g off n cap us hn hcap hw hl hF hv=>
      have hf1:=runesOf_vals vs us l hb ⟨hl.symm,fun i u hu=>(hF i u hu).2,hv⟩
      have hfl:=flat_length hw
      have hlen:l.length=n:=by rw[hf1] at hl;simp at hl;omega
      have hld:(loadCells ⟨g,off,none⟩ n).run P w= .ok (l.map (Value.int .i32)).toArray w:=by
       have:=run_loadCells_list (P:=P) w ⟨g,off,none⟩ (l.map (Value.int .i32)) (fun j v hj=>by
        obtain ⟨cur,e',fz,q1,q2⟩:=hW.frz _ _ _ (hF j v (by rw[hf1];exact hj)).1
        rw[add_addr,cell_of_row w g (off+j) cur e' fz q1];exact q2)
       rwa[List.length_map,hlen] at this
      exact ⟨_,by rw[run_convert_runes_string w src dst e _ n cap (under_elem he) (under_int hel) (under_str hst),run_runesToString w _ n cap l hld], .lit _⟩
 ·simp at h
def tParts (P:Program) (t:TypeId):Bool:=(P.underlying t).any fun
 | .struct fs=>fs.toList.all fun f=>(tSize P f.type).isSome
 | .array _ e=>(tSize P e).isSome
 |_=>false
def aBuild (P:Program) (t:TypeId) (parts:List (Nat×AV)):Option AV:=
 match tParts P t,azero P t with
 |true,some zs=>(fillA P t zs parts).map .agg
 |_,_=>none
end Go.AL
