/-
  No cell of these rows narrows 'for every input' (looked for: loops, veiled, ifaces, maps, wideKeys, modest, calm, conditions, laid).
  DERIVED. THE GIVEN ROWS OF THIS SEAT. 6 by the template 'for every input the law returns true; each argument reads behind the call as it read before'; 0 by the template 'total and deterministic' (their statements: YtlmdbcgceijlnaaGreatTotals.lean).
  GIVEN WITH THE SEED: the statements are not yours to turn. If you find one false, say at which input.
  Laid BY PROGRAM, IN A SANDBOX (cutbox-rows.mjs): the forced cells as the released guide's own fill.sh prints them over the translation 761e1da6e23516f8… (all of the seat's roots in one cut). By AI agents, Wed Nov 11 2026. No macro, syntax, notation, axiom, sorry.
-/
import Derived.Test.YtlmdbcgceijlnaaGreatChecked
import GoSem.Claim
import GoSem.ClaimJoined
import GoSem.ClaimMapViews
import Derived.JoinedTies
import Derived.KernelRfl
namespace Go.Proofs.YtlmdbcgceijlnaaGreat
/- THE CELL 'sum', in the pinned program and in every row, IS THE sha256 OF THE DUMP (.gsa) THAT YtlmdbcgceijlnaaGreatProg.lean LOADS. Nothing in Lean hashes anything: it is a label: what it is worth is what the hold of that sum in a sandbox is worth. -/
noncomputable def Tryz.pinned : Pinned := { name := "ytlmdbcgceijlnaagreat", sum := "761e1da6e23516f8d7b809939e30980d24b5422c393c53427e9a8a25ad468e5d", checked := Tryz.checked }
namespace Rows
def none {H : Type} : Left H := { results := [], args := [] }

/-- 'vitrinelaw18.KeysNumeric': WHATEVER THE INPUT: true; the input reads as it did. -/
def keysNumericSpec : ChangeSpec := { name := "keysNumeric", fn := fun _ => fun
  | [d1, d2, d3, d4] => { results := [.lit (.bool true)], args := [d1, d2, d3, d4] }
  | _ => none }
def keysNumericRow : OpenClaim := { program := "ytlmdbcgceijlnaagreat", sum := "761e1da6e23516f8d7b809939e30980d24b5422c393c53427e9a8a25ad468e5d", func := "vitrine/vitrinelaw18.KeysNumeric", spec := "keysNumeric", inPlace := ["sync/atomic.LoadUint32", "(*internal/sync.Mutex).Lock", "internal/race.Disable", "sync/atomic.CompareAndSwapInt32", "internal/race.Enable", "internal/race.Acquire", "(*internal/sync.Mutex).lockSlow", "internal/sync.runtime_canSpin", "internal/sync.runtime_doSpin", "internal/sync.throw", "internal/sync.runtime_nanotime", "internal/sync.runtime_SemacquireMutex", "sync/atomic.AddInt32", "(*internal/sync.Mutex).Unlock", "internal/race.ReleaseMerge", "(*internal/sync.Mutex).unlockSlow", "internal/sync.fatal", "internal/sync.runtime_Semrelease", "sync/atomic.StoreUint32"], unfollowed := true, recurses := true, apart := false }
def KeysNumericSaid : Prop := keysNumericRow.holds Tryz.pinned (OpenSpec.ofChange keysNumericSpec)

/-- ITS FALSE NEIGHBOUR: 'it returns false'. Refute it at one input. -/
def keysNumericWrong : ChangeSpec := { name := "keysNumeric", fn := fun _ => fun
  | [d1, d2, d3, d4] => { results := [.lit (.bool false)], args := [d1, d2, d3, d4] }
  | _ => none }
def KeysNumericWrongFalsely : Prop := keysNumericRow.holds Tryz.pinned (OpenSpec.ofChange keysNumericWrong)

/-- 'vitrinelaw18.KeysType': WHATEVER THE INPUT: true; the input reads as it did. -/
def keysTypeSpec : ChangeSpec := { name := "keysType", fn := fun _ => fun
  | [d1, d2, d3, d4] => { results := [.lit (.bool true)], args := [d1, d2, d3, d4] }
  | _ => none }
def keysTypeRow : OpenClaim := { program := "ytlmdbcgceijlnaagreat", sum := "761e1da6e23516f8d7b809939e30980d24b5422c393c53427e9a8a25ad468e5d", func := "vitrine/vitrinelaw18.KeysType", spec := "keysType", inPlace := ["sync/atomic.LoadUint32", "(*internal/sync.Mutex).Lock", "internal/race.Disable", "sync/atomic.CompareAndSwapInt32", "internal/race.Enable", "internal/race.Acquire", "(*internal/sync.Mutex).lockSlow", "internal/sync.runtime_canSpin", "internal/sync.runtime_doSpin", "internal/sync.throw", "internal/sync.runtime_nanotime", "internal/sync.runtime_SemacquireMutex", "sync/atomic.AddInt32", "(*internal/sync.Mutex).Unlock", "internal/race.ReleaseMerge", "(*internal/sync.Mutex).unlockSlow", "internal/sync.fatal", "internal/sync.runtime_Semrelease", "sync/atomic.StoreUint32"], unfollowed := true, recurses := true, apart := false }
def KeysTypeSaid : Prop := keysTypeRow.holds Tryz.pinned (OpenSpec.ofChange keysTypeSpec)

/-- ITS FALSE NEIGHBOUR: 'it returns false'. Refute it at one input. -/
def keysTypeWrong : ChangeSpec := { name := "keysType", fn := fun _ => fun
  | [d1, d2, d3, d4] => { results := [.lit (.bool false)], args := [d1, d2, d3, d4] }
  | _ => none }
def KeysTypeWrongFalsely : Prop := keysTypeRow.holds Tryz.pinned (OpenSpec.ofChange keysTypeWrong)

/-- 'vitrinelaw18.KeysSelect': WHATEVER THE INPUT: true; the input reads as it did. -/
def keysSelectSpec : ChangeSpec := { name := "keysSelect", fn := fun _ => fun
  | [d1, d2, d3, d4] => { results := [.lit (.bool true)], args := [d1, d2, d3, d4] }
  | _ => none }
def keysSelectRow : OpenClaim := { program := "ytlmdbcgceijlnaagreat", sum := "761e1da6e23516f8d7b809939e30980d24b5422c393c53427e9a8a25ad468e5d", func := "vitrine/vitrinelaw18.KeysSelect", spec := "keysSelect", inPlace := ["sync/atomic.LoadUint32", "(*internal/sync.Mutex).Lock", "internal/race.Disable", "sync/atomic.CompareAndSwapInt32", "internal/race.Enable", "internal/race.Acquire", "(*internal/sync.Mutex).lockSlow", "internal/sync.runtime_canSpin", "internal/sync.runtime_doSpin", "internal/sync.throw", "internal/sync.runtime_nanotime", "internal/sync.runtime_SemacquireMutex", "sync/atomic.AddInt32", "(*internal/sync.Mutex).Unlock", "internal/race.ReleaseMerge", "(*internal/sync.Mutex).unlockSlow", "internal/sync.fatal", "internal/sync.runtime_Semrelease", "sync/atomic.StoreUint32"], unfollowed := true, recurses := true, apart := false }
def KeysSelectSaid : Prop := keysSelectRow.holds Tryz.pinned (OpenSpec.ofChange keysSelectSpec)

/-- ITS FALSE NEIGHBOUR: 'it returns false'. Refute it at one input. -/
def keysSelectWrong : ChangeSpec := { name := "keysSelect", fn := fun _ => fun
  | [d1, d2, d3, d4] => { results := [.lit (.bool false)], args := [d1, d2, d3, d4] }
  | _ => none }
def KeysSelectWrongFalsely : Prop := keysSelectRow.holds Tryz.pinned (OpenSpec.ofChange keysSelectWrong)

/-- 'vitrinelaw18.KeysSafe': WHATEVER THE INPUT: true; the input reads as it did. -/
def keysSafeSpec : ChangeSpec := { name := "keysSafe", fn := fun _ => fun
  | [d1, d2, d3, d4, d5] => { results := [.lit (.bool true)], args := [d1, d2, d3, d4, d5] }
  | _ => none }
def keysSafeRow : OpenClaim := { program := "ytlmdbcgceijlnaagreat", sum := "761e1da6e23516f8d7b809939e30980d24b5422c393c53427e9a8a25ad468e5d", func := "vitrine/vitrinelaw18.KeysSafe", spec := "keysSafe", inPlace := ["sync/atomic.LoadUint32", "(*internal/sync.Mutex).Lock", "internal/race.Disable", "sync/atomic.CompareAndSwapInt32", "internal/race.Enable", "internal/race.Acquire", "(*internal/sync.Mutex).lockSlow", "internal/sync.runtime_canSpin", "internal/sync.runtime_doSpin", "internal/sync.throw", "internal/sync.runtime_nanotime", "internal/sync.runtime_SemacquireMutex", "sync/atomic.AddInt32", "(*internal/sync.Mutex).Unlock", "internal/race.ReleaseMerge", "(*internal/sync.Mutex).unlockSlow", "internal/sync.fatal", "internal/sync.runtime_Semrelease", "sync/atomic.StoreUint32"], unfollowed := true, recurses := true, apart := false }
def KeysSafeSaid : Prop := keysSafeRow.holds Tryz.pinned (OpenSpec.ofChange keysSafeSpec)

/-- ITS FALSE NEIGHBOUR: 'it returns false'. Refute it at one input. -/
def keysSafeWrong : ChangeSpec := { name := "keysSafe", fn := fun _ => fun
  | [d1, d2, d3, d4, d5] => { results := [.lit (.bool false)], args := [d1, d2, d3, d4, d5] }
  | _ => none }
def KeysSafeWrongFalsely : Prop := keysSafeRow.holds Tryz.pinned (OpenSpec.ofChange keysSafeWrong)

/-- 'vitrinelaw18.KeysPlay': WHATEVER THE INPUT: true; the input reads as it did. -/
def keysPlaySpec : ChangeSpec := { name := "keysPlay", fn := fun _ => fun
  | [d1, d2, d3, d4] => { results := [.lit (.bool true)], args := [d1, d2, d3, d4] }
  | _ => none }
def keysPlayRow : OpenClaim := { program := "ytlmdbcgceijlnaagreat", sum := "761e1da6e23516f8d7b809939e30980d24b5422c393c53427e9a8a25ad468e5d", func := "vitrine/vitrinelaw18.KeysPlay", spec := "keysPlay", inPlace := ["sync/atomic.LoadUint32", "(*internal/sync.Mutex).Lock", "internal/race.Disable", "sync/atomic.CompareAndSwapInt32", "internal/race.Enable", "internal/race.Acquire", "(*internal/sync.Mutex).lockSlow", "internal/sync.runtime_canSpin", "internal/sync.runtime_doSpin", "internal/sync.throw", "internal/sync.runtime_nanotime", "internal/sync.runtime_SemacquireMutex", "sync/atomic.AddInt32", "(*internal/sync.Mutex).Unlock", "internal/race.ReleaseMerge", "(*internal/sync.Mutex).unlockSlow", "internal/sync.fatal", "internal/sync.runtime_Semrelease", "sync/atomic.StoreUint32"], unfollowed := true, recurses := true, apart := false }
def KeysPlaySaid : Prop := keysPlayRow.holds Tryz.pinned (OpenSpec.ofChange keysPlaySpec)

/-- ITS FALSE NEIGHBOUR: 'it returns false'. Refute it at one input. -/
def keysPlayWrong : ChangeSpec := { name := "keysPlay", fn := fun _ => fun
  | [d1, d2, d3, d4] => { results := [.lit (.bool false)], args := [d1, d2, d3, d4] }
  | _ => none }
def KeysPlayWrongFalsely : Prop := keysPlayRow.holds Tryz.pinned (OpenSpec.ofChange keysPlayWrong)

/-- 'vitrinelaw18.KeysLocked': WHATEVER THE INPUT: true; the input reads as it did. -/
def keysLockedSpec : ChangeSpec := { name := "keysLocked", fn := fun _ => fun
  | [d1, d2, d3, d4, d5] => { results := [.lit (.bool true)], args := [d1, d2, d3, d4, d5] }
  | _ => none }
def keysLockedRow : OpenClaim := { program := "ytlmdbcgceijlnaagreat", sum := "761e1da6e23516f8d7b809939e30980d24b5422c393c53427e9a8a25ad468e5d", func := "vitrine/vitrinelaw18.KeysLocked", spec := "keysLocked", inPlace := ["sync/atomic.LoadUint32", "(*internal/sync.Mutex).Lock", "internal/race.Disable", "sync/atomic.CompareAndSwapInt32", "internal/race.Enable", "internal/race.Acquire", "(*internal/sync.Mutex).lockSlow", "internal/sync.runtime_canSpin", "internal/sync.runtime_doSpin", "internal/sync.throw", "internal/sync.runtime_nanotime", "internal/sync.runtime_SemacquireMutex", "sync/atomic.AddInt32", "(*internal/sync.Mutex).Unlock", "internal/race.ReleaseMerge", "(*internal/sync.Mutex).unlockSlow", "internal/sync.fatal", "internal/sync.runtime_Semrelease", "sync/atomic.StoreUint32"], unfollowed := true, recurses := true, apart := false }
def KeysLockedSaid : Prop := keysLockedRow.holds Tryz.pinned (OpenSpec.ofChange keysLockedSpec)

/-- ITS FALSE NEIGHBOUR: 'it returns false'. Refute it at one input. -/
def keysLockedWrong : ChangeSpec := { name := "keysLocked", fn := fun _ => fun
  | [d1, d2, d3, d4, d5] => { results := [.lit (.bool false)], args := [d1, d2, d3, d4, d5] }
  | _ => none }
def KeysLockedWrongFalsely : Prop := keysLockedRow.holds Tryz.pinned (OpenSpec.ofChange keysLockedWrong)

/- THE SECOND FORM. 'bulk': how many values and letters a reading holds, each counted each time it is reached (what is shared counts as often as it is met; a slice's spare places count too). A statement '..UptoSaid' is the law's where the arguments, and the package variables that the reading takes, are together of bulk at most 1048576: NARROWER than '..Said'. Prove '..Said' where nothing that the law and all that it calls make is longer than what came in: it says more and counts as full. Else prove '..UptoSaid'. A law counts once. -/
mutual
def uptoBulk {H : Type} : DataW H → Nat
  | .lit (.string bytes) => bytes.length + 1
  | .lit _ => 1
  | .nil => 1
  | .ptr d => uptoBulk d + 1
  | .slice elems spare => uptoBulkAll elems + uptoBulkAll spare + 1
  | .agg parts => uptoBulkAll parts + 1
  | .iface _ d => uptoBulk d + 1
  | .map entries => uptoBulkEntries entries + 1
  | .held _ => 1
def uptoBulkAll {H : Type} : List (DataW H) → Nat
  | [] => 0
  | d :: r => uptoBulk d + uptoBulkAll r
def uptoBulkEntries {H : Type} : List (Lit × DataW H) → Nat
  | [] => 0
  | x :: r => uptoBulkEntry x + uptoBulkEntries r
def uptoBulkEntry {H : Type} : Lit × DataW H → Nat
  | (.string bytes, d) => bytes.length + uptoBulk d + 1
  | (_, d) => uptoBulk d + 1
 end
def uptoSmall : (H : Type) → List (DataW H) → Bool := fun _ ds => decide (uptoBulkAll ds ≤ 1048576)
def OpenSpec.upto (s : _root_.Go.ChangeSpec) : _root_.Go.OpenSpec := { _root_.Go.OpenSpec.ofChange s with cond := some uptoSmall }

/-- 'vitrinelaw18.KeysNumeric', WHERE WHAT IT READS IS OF BULK AT MOST 1048576: true; the input reads as it did. -/
def keysNumericUptoRow : OpenClaim := { program := "ytlmdbcgceijlnaagreat", sum := "761e1da6e23516f8d7b809939e30980d24b5422c393c53427e9a8a25ad468e5d", func := "vitrine/vitrinelaw18.KeysNumeric", spec := "keysNumeric", inPlace := ["sync/atomic.LoadUint32", "(*internal/sync.Mutex).Lock", "internal/race.Disable", "sync/atomic.CompareAndSwapInt32", "internal/race.Enable", "internal/race.Acquire", "(*internal/sync.Mutex).lockSlow", "internal/sync.runtime_canSpin", "internal/sync.runtime_doSpin", "internal/sync.throw", "internal/sync.runtime_nanotime", "internal/sync.runtime_SemacquireMutex", "sync/atomic.AddInt32", "(*internal/sync.Mutex).Unlock", "internal/race.ReleaseMerge", "(*internal/sync.Mutex).unlockSlow", "internal/sync.fatal", "internal/sync.runtime_Semrelease", "sync/atomic.StoreUint32"], unfollowed := true, recurses := true, apart := false, narrowed := true }
def KeysNumericUptoSaid : Prop := keysNumericUptoRow.holds Tryz.pinned (OpenSpec.upto keysNumericSpec)

/-- 'vitrinelaw18.KeysType', WHERE WHAT IT READS IS OF BULK AT MOST 1048576: true; the input reads as it did. -/
def keysTypeUptoRow : OpenClaim := { program := "ytlmdbcgceijlnaagreat", sum := "761e1da6e23516f8d7b809939e30980d24b5422c393c53427e9a8a25ad468e5d", func := "vitrine/vitrinelaw18.KeysType", spec := "keysType", inPlace := ["sync/atomic.LoadUint32", "(*internal/sync.Mutex).Lock", "internal/race.Disable", "sync/atomic.CompareAndSwapInt32", "internal/race.Enable", "internal/race.Acquire", "(*internal/sync.Mutex).lockSlow", "internal/sync.runtime_canSpin", "internal/sync.runtime_doSpin", "internal/sync.throw", "internal/sync.runtime_nanotime", "internal/sync.runtime_SemacquireMutex", "sync/atomic.AddInt32", "(*internal/sync.Mutex).Unlock", "internal/race.ReleaseMerge", "(*internal/sync.Mutex).unlockSlow", "internal/sync.fatal", "internal/sync.runtime_Semrelease", "sync/atomic.StoreUint32"], unfollowed := true, recurses := true, apart := false, narrowed := true }
def KeysTypeUptoSaid : Prop := keysTypeUptoRow.holds Tryz.pinned (OpenSpec.upto keysTypeSpec)

/-- 'vitrinelaw18.KeysSelect', WHERE WHAT IT READS IS OF BULK AT MOST 1048576: true; the input reads as it did. -/
def keysSelectUptoRow : OpenClaim := { program := "ytlmdbcgceijlnaagreat", sum := "761e1da6e23516f8d7b809939e30980d24b5422c393c53427e9a8a25ad468e5d", func := "vitrine/vitrinelaw18.KeysSelect", spec := "keysSelect", inPlace := ["sync/atomic.LoadUint32", "(*internal/sync.Mutex).Lock", "internal/race.Disable", "sync/atomic.CompareAndSwapInt32", "internal/race.Enable", "internal/race.Acquire", "(*internal/sync.Mutex).lockSlow", "internal/sync.runtime_canSpin", "internal/sync.runtime_doSpin", "internal/sync.throw", "internal/sync.runtime_nanotime", "internal/sync.runtime_SemacquireMutex", "sync/atomic.AddInt32", "(*internal/sync.Mutex).Unlock", "internal/race.ReleaseMerge", "(*internal/sync.Mutex).unlockSlow", "internal/sync.fatal", "internal/sync.runtime_Semrelease", "sync/atomic.StoreUint32"], unfollowed := true, recurses := true, apart := false, narrowed := true }
def KeysSelectUptoSaid : Prop := keysSelectUptoRow.holds Tryz.pinned (OpenSpec.upto keysSelectSpec)

/-- 'vitrinelaw18.KeysSafe', WHERE WHAT IT READS IS OF BULK AT MOST 1048576: true; the input reads as it did. -/
def keysSafeUptoRow : OpenClaim := { program := "ytlmdbcgceijlnaagreat", sum := "761e1da6e23516f8d7b809939e30980d24b5422c393c53427e9a8a25ad468e5d", func := "vitrine/vitrinelaw18.KeysSafe", spec := "keysSafe", inPlace := ["sync/atomic.LoadUint32", "(*internal/sync.Mutex).Lock", "internal/race.Disable", "sync/atomic.CompareAndSwapInt32", "internal/race.Enable", "internal/race.Acquire", "(*internal/sync.Mutex).lockSlow", "internal/sync.runtime_canSpin", "internal/sync.runtime_doSpin", "internal/sync.throw", "internal/sync.runtime_nanotime", "internal/sync.runtime_SemacquireMutex", "sync/atomic.AddInt32", "(*internal/sync.Mutex).Unlock", "internal/race.ReleaseMerge", "(*internal/sync.Mutex).unlockSlow", "internal/sync.fatal", "internal/sync.runtime_Semrelease", "sync/atomic.StoreUint32"], unfollowed := true, recurses := true, apart := false, narrowed := true }
def KeysSafeUptoSaid : Prop := keysSafeUptoRow.holds Tryz.pinned (OpenSpec.upto keysSafeSpec)

/-- 'vitrinelaw18.KeysPlay', WHERE WHAT IT READS IS OF BULK AT MOST 1048576: true; the input reads as it did. -/
def keysPlayUptoRow : OpenClaim := { program := "ytlmdbcgceijlnaagreat", sum := "761e1da6e23516f8d7b809939e30980d24b5422c393c53427e9a8a25ad468e5d", func := "vitrine/vitrinelaw18.KeysPlay", spec := "keysPlay", inPlace := ["sync/atomic.LoadUint32", "(*internal/sync.Mutex).Lock", "internal/race.Disable", "sync/atomic.CompareAndSwapInt32", "internal/race.Enable", "internal/race.Acquire", "(*internal/sync.Mutex).lockSlow", "internal/sync.runtime_canSpin", "internal/sync.runtime_doSpin", "internal/sync.throw", "internal/sync.runtime_nanotime", "internal/sync.runtime_SemacquireMutex", "sync/atomic.AddInt32", "(*internal/sync.Mutex).Unlock", "internal/race.ReleaseMerge", "(*internal/sync.Mutex).unlockSlow", "internal/sync.fatal", "internal/sync.runtime_Semrelease", "sync/atomic.StoreUint32"], unfollowed := true, recurses := true, apart := false, narrowed := true }
def KeysPlayUptoSaid : Prop := keysPlayUptoRow.holds Tryz.pinned (OpenSpec.upto keysPlaySpec)

/-- 'vitrinelaw18.KeysLocked', WHERE WHAT IT READS IS OF BULK AT MOST 1048576: true; the input reads as it did. -/
def keysLockedUptoRow : OpenClaim := { program := "ytlmdbcgceijlnaagreat", sum := "761e1da6e23516f8d7b809939e30980d24b5422c393c53427e9a8a25ad468e5d", func := "vitrine/vitrinelaw18.KeysLocked", spec := "keysLocked", inPlace := ["sync/atomic.LoadUint32", "(*internal/sync.Mutex).Lock", "internal/race.Disable", "sync/atomic.CompareAndSwapInt32", "internal/race.Enable", "internal/race.Acquire", "(*internal/sync.Mutex).lockSlow", "internal/sync.runtime_canSpin", "internal/sync.runtime_doSpin", "internal/sync.throw", "internal/sync.runtime_nanotime", "internal/sync.runtime_SemacquireMutex", "sync/atomic.AddInt32", "(*internal/sync.Mutex).Unlock", "internal/race.ReleaseMerge", "(*internal/sync.Mutex).unlockSlow", "internal/sync.fatal", "internal/sync.runtime_Semrelease", "sync/atomic.StoreUint32"], unfollowed := true, recurses := true, apart := false, narrowed := true }
def KeysLockedUptoSaid : Prop := keysLockedUptoRow.holds Tryz.pinned (OpenSpec.upto keysLockedSpec)

end Rows
end Go.Proofs.YtlmdbcgceijlnaaGreat
