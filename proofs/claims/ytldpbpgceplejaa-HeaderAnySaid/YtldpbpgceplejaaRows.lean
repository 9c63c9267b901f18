/-
  No cell of these rows narrows 'for every input' (looked for: loops, veiled, ifaces, maps, wideKeys, modest, calm, conditions, laid).
  DERIVED. THE GIVEN ROWS OF THIS SEAT. 12 by the template 'for every input the law returns true; each argument reads behind the call as it read before'; 0 by the template 'total and deterministic' (their statements: YtldpbpgceplejaaTotals.lean).
  GIVEN WITH THE SEED: the statements are not yours to turn. If you find one false, say at which input.
  Laid BY PROGRAM, IN A SANDBOX (cutbox-rows.mjs): the forced cells as the released guide's own fill.sh prints them over the translation 54e4294e0d96412d… (all of the seat's roots in one cut). By AI agents, Wed Nov 11 2026. No macro, syntax, notation, axiom, sorry.
-/
import Derived.Test.YtldpbpgceplejaaChecked
import GoSem.Claim
import GoSem.ClaimJoined
import GoSem.ClaimMapViews
import Derived.JoinedTies
import Derived.KernelRfl
namespace Go.Proofs.Ytldpbpgceplejaa
/- THE CELL 'sum', in the pinned program and in every row, IS THE sha256 OF THE DUMP (.gsa) THAT YtldpbpgceplejaaProg.lean LOADS. Nothing in Lean hashes anything: it is a label: what it is worth is what the hold of that sum in a sandbox is worth. -/
noncomputable def Try.pinned : Pinned := { name := "ytldpbpgceplejaa", sum := "54e4294e0d96412df8f774b08a5b2f5f188a7793a63e47e944fbb0747ea124fa", checked := Try.checked }
namespace Rows
def none {H : Type} : Left H := { results := [], args := [] }

/-- 'binnaclelaw10.ParamOrder': WHATEVER THE INPUT: true; the input reads as it did. -/
def paramOrderSpec : ChangeSpec := { name := "paramOrder", fn := fun _ => fun
  | [d1, d2, d3, d4, d5] => { results := [.lit (.bool true)], args := [d1, d2, d3, d4, d5] }
  | _ => none }
def paramOrderRow : OpenClaim := { program := "ytldpbpgceplejaa", sum := "54e4294e0d96412df8f774b08a5b2f5f188a7793a63e47e944fbb0747ea124fa", func := "binnacle/binnaclelaw10.ParamOrder", spec := "paramOrder", apart := false }
def ParamOrderSaid : Prop := paramOrderRow.holds Try.pinned (OpenSpec.ofChange paramOrderSpec)

/-- ITS FALSE NEIGHBOUR: 'it returns false'. Refute it at one input. -/
def paramOrderWrong : ChangeSpec := { name := "paramOrder", fn := fun _ => fun
  | [d1, d2, d3, d4, d5] => { results := [.lit (.bool false)], args := [d1, d2, d3, d4, d5] }
  | _ => none }
def ParamOrderWrongFalsely : Prop := paramOrderRow.holds Try.pinned (OpenSpec.ofChange paramOrderWrong)

/-- 'binnaclelaw10.ParamAny': WHATEVER THE INPUT: true; the input reads as it did. -/
def paramAnySpec : ChangeSpec := { name := "paramAny", fn := fun _ => fun
  | [d1, d2] => { results := [.lit (.bool true)], args := [d1, d2] }
  | _ => none }
def paramAnyRow : OpenClaim := { program := "ytldpbpgceplejaa", sum := "54e4294e0d96412df8f774b08a5b2f5f188a7793a63e47e944fbb0747ea124fa", func := "binnacle/binnaclelaw10.ParamAny", spec := "paramAny", apart := false }
def ParamAnySaid : Prop := paramAnyRow.holds Try.pinned (OpenSpec.ofChange paramAnySpec)

/-- ITS FALSE NEIGHBOUR: 'it returns false'. Refute it at one input. -/
def paramAnyWrong : ChangeSpec := { name := "paramAny", fn := fun _ => fun
  | [d1, d2] => { results := [.lit (.bool false)], args := [d1, d2] }
  | _ => none }
def ParamAnyWrongFalsely : Prop := paramAnyRow.holds Try.pinned (OpenSpec.ofChange paramAnyWrong)

/-- 'binnaclelaw04.KdfExpands': WHATEVER THE INPUT: true; the input reads as it did. -/
def kdfExpandsSpec : ChangeSpec := { name := "kdfExpands", fn := fun _ => fun
  | [d1, d2, d3, d4] => { results := [.lit (.bool true)], args := [d1, d2, d3, d4] }
  | _ => none }
def kdfExpandsRow : OpenClaim := { program := "ytldpbpgceplejaa", sum := "54e4294e0d96412df8f774b08a5b2f5f188a7793a63e47e944fbb0747ea124fa", func := "binnacle/binnaclelaw04.KdfExpands", spec := "kdfExpands", inPlace := ["math/bits.Add64", "sync/atomic.LoadUint32", "(*internal/sync.Mutex).Lock", "internal/race.Disable", "sync/atomic.CompareAndSwapInt32", "internal/race.Enable", "internal/race.Acquire", "(*internal/sync.Mutex).lockSlow", "internal/sync.runtime_canSpin", "internal/sync.runtime_doSpin", "internal/sync.throw", "internal/sync.runtime_nanotime", "internal/sync.runtime_SemacquireMutex", "sync/atomic.AddInt32", "(*internal/sync.Mutex).Unlock", "internal/race.ReleaseMerge", "(*internal/sync.Mutex).unlockSlow", "internal/sync.fatal", "internal/sync.runtime_Semrelease", "sync/atomic.StoreUint32"], unfollowed := true, recurses := true, apart := false }
def KdfExpandsSaid : Prop := kdfExpandsRow.holds Try.pinned (OpenSpec.ofChange kdfExpandsSpec)

/-- ITS FALSE NEIGHBOUR: 'it returns false'. Refute it at one input. -/
def kdfExpandsWrong : ChangeSpec := { name := "kdfExpands", fn := fun _ => fun
  | [d1, d2, d3, d4] => { results := [.lit (.bool false)], args := [d1, d2, d3, d4] }
  | _ => none }
def KdfExpandsWrongFalsely : Prop := kdfExpandsRow.holds Try.pinned (OpenSpec.ofChange kdfExpandsWrong)

/-- 'binnaclelaw04.KdfLabels': WHATEVER THE INPUT: true; the input reads as it did. -/
def kdfLabelsSpec : ChangeSpec := { name := "kdfLabels", fn := fun _ => fun
  | [d1, d2, d3, d4, d5] => { results := [.lit (.bool true)], args := [d1, d2, d3, d4, d5] }
  | _ => none }
def kdfLabelsRow : OpenClaim := { program := "ytldpbpgceplejaa", sum := "54e4294e0d96412df8f774b08a5b2f5f188a7793a63e47e944fbb0747ea124fa", func := "binnacle/binnaclelaw04.KdfLabels", spec := "kdfLabels", inPlace := ["math/bits.Add64", "sync/atomic.LoadUint32", "(*internal/sync.Mutex).Lock", "internal/race.Disable", "sync/atomic.CompareAndSwapInt32", "internal/race.Enable", "internal/race.Acquire", "(*internal/sync.Mutex).lockSlow", "internal/sync.runtime_canSpin", "internal/sync.runtime_doSpin", "internal/sync.throw", "internal/sync.runtime_nanotime", "internal/sync.runtime_SemacquireMutex", "sync/atomic.AddInt32", "(*internal/sync.Mutex).Unlock", "internal/race.ReleaseMerge", "(*internal/sync.Mutex).unlockSlow", "internal/sync.fatal", "internal/sync.runtime_Semrelease", "sync/atomic.StoreUint32"], unfollowed := true, recurses := true, apart := false }
def KdfLabelsSaid : Prop := kdfLabelsRow.holds Try.pinned (OpenSpec.ofChange kdfLabelsSpec)

/-- ITS FALSE NEIGHBOUR: 'it returns false'. Refute it at one input. -/
def kdfLabelsWrong : ChangeSpec := { name := "kdfLabels", fn := fun _ => fun
  | [d1, d2, d3, d4, d5] => { results := [.lit (.bool false)], args := [d1, d2, d3, d4, d5] }
  | _ => none }
def KdfLabelsWrongFalsely : Prop := kdfLabelsRow.holds Try.pinned (OpenSpec.ofChange kdfLabelsWrong)

/-- 'binnaclelaw04.KdfDerives': WHATEVER THE INPUT: true; the input reads as it did. -/
def kdfDerivesSpec : ChangeSpec := { name := "kdfDerives", fn := fun _ => fun
  | [d1, d2, d3, d4, d5] => { results := [.lit (.bool true)], args := [d1, d2, d3, d4, d5] }
  | _ => none }
def kdfDerivesRow : OpenClaim := { program := "ytldpbpgceplejaa", sum := "54e4294e0d96412df8f774b08a5b2f5f188a7793a63e47e944fbb0747ea124fa", func := "binnacle/binnaclelaw04.KdfDerives", spec := "kdfDerives", inPlace := ["math/bits.Add64", "sync/atomic.LoadUint32", "(*internal/sync.Mutex).Lock", "internal/race.Disable", "sync/atomic.CompareAndSwapInt32", "internal/race.Enable", "internal/race.Acquire", "(*internal/sync.Mutex).lockSlow", "internal/sync.runtime_canSpin", "internal/sync.runtime_doSpin", "internal/sync.throw", "internal/sync.runtime_nanotime", "internal/sync.runtime_SemacquireMutex", "sync/atomic.AddInt32", "(*internal/sync.Mutex).Unlock", "internal/race.ReleaseMerge", "(*internal/sync.Mutex).unlockSlow", "internal/sync.fatal", "internal/sync.runtime_Semrelease", "sync/atomic.StoreUint32"], unfollowed := true, recurses := true, apart := false }
def KdfDerivesSaid : Prop := kdfDerivesRow.holds Try.pinned (OpenSpec.ofChange kdfDerivesSpec)

/-- ITS FALSE NEIGHBOUR: 'it returns false'. Refute it at one input. -/
def kdfDerivesWrong : ChangeSpec := { name := "kdfDerives", fn := fun _ => fun
  | [d1, d2, d3, d4, d5] => { results := [.lit (.bool false)], args := [d1, d2, d3, d4, d5] }
  | _ => none }
def KdfDerivesWrongFalsely : Prop := kdfDerivesRow.holds Try.pinned (OpenSpec.ofChange kdfDerivesWrong)

/-- 'binnaclelaw04.KdfNone': WHATEVER THE INPUT: true; the input reads as it did. -/
def kdfNoneSpec : ChangeSpec := { name := "kdfNone", fn := fun _ => fun
  | [d1, d2, d3] => { results := [.lit (.bool true)], args := [d1, d2, d3] }
  | _ => none }
def kdfNoneRow : OpenClaim := { program := "ytldpbpgceplejaa", sum := "54e4294e0d96412df8f774b08a5b2f5f188a7793a63e47e944fbb0747ea124fa", func := "binnacle/binnaclelaw04.KdfNone", spec := "kdfNone", inPlace := ["math/bits.Add64", "sync/atomic.LoadUint32", "(*internal/sync.Mutex).Lock", "internal/race.Disable", "sync/atomic.CompareAndSwapInt32", "internal/race.Enable", "internal/race.Acquire", "(*internal/sync.Mutex).lockSlow", "internal/sync.runtime_canSpin", "internal/sync.runtime_doSpin", "internal/sync.throw", "internal/sync.runtime_nanotime", "internal/sync.runtime_SemacquireMutex", "sync/atomic.AddInt32", "(*internal/sync.Mutex).Unlock", "internal/race.ReleaseMerge", "(*internal/sync.Mutex).unlockSlow", "internal/sync.fatal", "internal/sync.runtime_Semrelease", "sync/atomic.StoreUint32"], unfollowed := true, recurses := true, apart := false }
def KdfNoneSaid : Prop := kdfNoneRow.holds Try.pinned (OpenSpec.ofChange kdfNoneSpec)

/-- ITS FALSE NEIGHBOUR: 'it returns false'. Refute it at one input. -/
def kdfNoneWrong : ChangeSpec := { name := "kdfNone", fn := fun _ => fun
  | [d1, d2, d3] => { results := [.lit (.bool false)], args := [d1, d2, d3] }
  | _ => none }
def KdfNoneWrongFalsely : Prop := kdfNoneRow.holds Try.pinned (OpenSpec.ofChange kdfNoneWrong)

/-- 'binnaclelaw25.BlogAny': WHATEVER THE INPUT: true; the input reads as it did. -/
def blogAnySpec : ChangeSpec := { name := "blogAny", fn := fun _ => fun
  | [d1, d2, d3, d4, d5] => { results := [.lit (.bool true)], args := [d1, d2, d3, d4, d5] }
  | _ => none }
def blogAnyRow : OpenClaim := { program := "ytldpbpgceplejaa", sum := "54e4294e0d96412df8f774b08a5b2f5f188a7793a63e47e944fbb0747ea124fa", func := "binnacle/binnaclelaw25.BlogAny", spec := "blogAny", apart := false }
def BlogAnySaid : Prop := blogAnyRow.holds Try.pinned (OpenSpec.ofChange blogAnySpec)

/-- ITS FALSE NEIGHBOUR: 'it returns false'. Refute it at one input. -/
def blogAnyWrong : ChangeSpec := { name := "blogAny", fn := fun _ => fun
  | [d1, d2, d3, d4, d5] => { results := [.lit (.bool false)], args := [d1, d2, d3, d4, d5] }
  | _ => none }
def BlogAnyWrongFalsely : Prop := blogAnyRow.holds Try.pinned (OpenSpec.ofChange blogAnyWrong)

/-- 'binnaclelaw09.HeaderBack': WHATEVER THE INPUT: true; the input reads as it did. -/
def headerBackSpec : ChangeSpec := { name := "headerBack", fn := fun _ => fun
  | [d1, d2, d3] => { results := [.lit (.bool true)], args := [d1, d2, d3] }
  | _ => none }
def headerBackRow : OpenClaim := { program := "ytldpbpgceplejaa", sum := "54e4294e0d96412df8f774b08a5b2f5f188a7793a63e47e944fbb0747ea124fa", func := "binnacle/binnaclelaw09.HeaderBack", spec := "headerBack", apart := false }
def HeaderBackSaid : Prop := headerBackRow.holds Try.pinned (OpenSpec.ofChange headerBackSpec)

/-- ITS FALSE NEIGHBOUR: 'it returns false'. Refute it at one input. -/
def headerBackWrong : ChangeSpec := { name := "headerBack", fn := fun _ => fun
  | [d1, d2, d3] => { results := [.lit (.bool false)], args := [d1, d2, d3] }
  | _ => none }
def HeaderBackWrongFalsely : Prop := headerBackRow.holds Try.pinned (OpenSpec.ofChange headerBackWrong)

/-- 'binnaclelaw09.HeaderAny': WHATEVER THE INPUT: true; the input reads as it did. -/
def headerAnySpec : ChangeSpec := { name := "headerAny", fn := fun _ => fun
  | [d1, d2, d3] => { results := [.lit (.bool true)], args := [d1, d2, d3] }
  | _ => none }
def headerAnyRow : OpenClaim := { program := "ytldpbpgceplejaa", sum := "54e4294e0d96412df8f774b08a5b2f5f188a7793a63e47e944fbb0747ea124fa", func := "binnacle/binnaclelaw09.HeaderAny", spec := "headerAny", apart := false }
def HeaderAnySaid : Prop := headerAnyRow.holds Try.pinned (OpenSpec.ofChange headerAnySpec)

/-- ITS FALSE NEIGHBOUR: 'it returns false'. Refute it at one input. -/
def headerAnyWrong : ChangeSpec := { name := "headerAny", fn := fun _ => fun
  | [d1, d2, d3] => { results := [.lit (.bool false)], args := [d1, d2, d3] }
  | _ => none }
def HeaderAnyWrongFalsely : Prop := headerAnyRow.holds Try.pinned (OpenSpec.ofChange headerAnyWrong)

/-- 'binnaclelaw25.BlogBytes': WHATEVER THE INPUT: true; the input reads as it did. -/
def blogBytesSpec : ChangeSpec := { name := "blogBytes", fn := fun _ => fun
  | [d1, d2, d3] => { results := [.lit (.bool true)], args := [d1, d2, d3] }
  | _ => none }
def blogBytesRow : OpenClaim := { program := "ytldpbpgceplejaa", sum := "54e4294e0d96412df8f774b08a5b2f5f188a7793a63e47e944fbb0747ea124fa", func := "binnacle/binnaclelaw25.BlogBytes", spec := "blogBytes", apart := false }
def BlogBytesSaid : Prop := blogBytesRow.holds Try.pinned (OpenSpec.ofChange blogBytesSpec)

/-- ITS FALSE NEIGHBOUR: 'it returns false'. Refute it at one input. -/
def blogBytesWrong : ChangeSpec := { name := "blogBytes", fn := fun _ => fun
  | [d1, d2, d3] => { results := [.lit (.bool false)], args := [d1, d2, d3] }
  | _ => none }
def BlogBytesWrongFalsely : Prop := blogBytesRow.holds Try.pinned (OpenSpec.ofChange blogBytesWrong)

/-- 'binnaclelaw11.KeysInitial': WHATEVER THE INPUT: true; the input reads as it did. -/
def keysInitialSpec : ChangeSpec := { name := "keysInitial", fn := fun _ => fun
  | [d] => { results := [.lit (.bool true)], args := [d] }
  | _ => none }
def keysInitialRow : OpenClaim := { program := "ytldpbpgceplejaa", sum := "54e4294e0d96412df8f774b08a5b2f5f188a7793a63e47e944fbb0747ea124fa", func := "binnacle/binnaclelaw11.KeysInitial", spec := "keysInitial", inPlace := ["math/bits.Add64", "sync/atomic.LoadUint32", "(*internal/sync.Mutex).Lock", "internal/race.Disable", "sync/atomic.CompareAndSwapInt32", "internal/race.Enable", "internal/race.Acquire", "(*internal/sync.Mutex).lockSlow", "internal/sync.runtime_canSpin", "internal/sync.runtime_doSpin", "internal/sync.throw", "internal/sync.runtime_nanotime", "internal/sync.runtime_SemacquireMutex", "sync/atomic.AddInt32", "(*internal/sync.Mutex).Unlock", "internal/race.ReleaseMerge", "(*internal/sync.Mutex).unlockSlow", "internal/sync.fatal", "internal/sync.runtime_Semrelease", "sync/atomic.StoreUint32", "sync/atomic.AddInt64"], unfollowed := true, recurses := true, apart := false }
def KeysInitialSaid : Prop := keysInitialRow.holds Try.pinned (OpenSpec.ofChange keysInitialSpec)

/-- ITS FALSE NEIGHBOUR: 'it returns false'. Refute it at one input. -/
def keysInitialWrong : ChangeSpec := { name := "keysInitial", fn := fun _ => fun
  | [d] => { results := [.lit (.bool false)], args := [d] }
  | _ => none }
def KeysInitialWrongFalsely : Prop := keysInitialRow.holds Try.pinned (OpenSpec.ofChange keysInitialWrong)

/-- 'binnaclelaw28.ReplayAll': WHATEVER THE INPUT: true; the input reads as it did. -/
def replayAllSpec : ChangeSpec := { name := "replayAll", fn := fun _ => fun
  | [d1, d2] => { results := [.lit (.bool true)], args := [d1, d2] }
  | _ => none }
def replayAllRow : OpenClaim := { program := "ytldpbpgceplejaa", sum := "54e4294e0d96412df8f774b08a5b2f5f188a7793a63e47e944fbb0747ea124fa", func := "binnacle/binnaclelaw28.ReplayAll", spec := "replayAll", unfollowed := true, recurses := true, apart := false }
def ReplayAllSaid : Prop := replayAllRow.holds Try.pinned (OpenSpec.ofChange replayAllSpec)

/-- ITS FALSE NEIGHBOUR: 'it returns false'. Refute it at one input. -/
def replayAllWrong : ChangeSpec := { name := "replayAll", fn := fun _ => fun
  | [d1, d2] => { results := [.lit (.bool false)], args := [d1, d2] }
  | _ => none }
def ReplayAllWrongFalsely : Prop := replayAllRow.holds Try.pinned (OpenSpec.ofChange replayAllWrong)

/- THE SECOND FORM. 'bulk': how many values and letters a reading holds, each counted each time it is reached (what is shared counts as often as it is met; a slice's spare places count too). A statement '..UptoSaid' is the law's where the arguments, and the package variables that the reading takes, are together of bulk at most 1048576: NARROWER than '..Said'. Prove '..Said' where nothing that the law and all that it calls make is longer than what came in: it says more and counts as full. Else prove '..UptoSaid'. A law counts once. -/
mutual
def uptoBulk {H : Type} : DataW H → Nat
  | .lit (.string bytes) => bytes.length + 1
  | .lit _ => 1
  | .nil => 1
  | .ptr d => uptoBulk d + 1
  | .slice elems spare => uptoBulkAll elems + uptoBulkAll spare + 1
  | .agg parts => uptoBulkAll parts + 1
  | .iface _ d => uptoBulk d + 1
  | .map entries => uptoBulkEntries entries + 1
  | .held _ => 1
def uptoBulkAll {H : Type} : List (DataW H) → Nat
  | [] => 0
  | d :: r => uptoBulk d + uptoBulkAll r
def uptoBulkEntries {H : Type} : List (Lit × DataW H) → Nat
  | [] => 0
  | x :: r => uptoBulkEntry x + uptoBulkEntries r
def uptoBulkEntry {H : Type} : Lit × DataW H → Nat
  | (.string bytes, d) => bytes.length + uptoBulk d + 1
  | (_, d) => uptoBulk d + 1
 end
def uptoSmall : (H : Type) → List (DataW H) → Bool := fun _ ds => decide (uptoBulkAll ds ≤ 1048576)
def OpenSpec.upto (s : _root_.Go.ChangeSpec) : _root_.Go.OpenSpec := { _root_.Go.OpenSpec.ofChange s with cond := some uptoSmall }

/-- 'binnaclelaw10.ParamOrder', WHERE WHAT IT READS IS OF BULK AT MOST 1048576: true; the input reads as it did. -/
def paramOrderUptoRow : OpenClaim := { program := "ytldpbpgceplejaa", sum := "54e4294e0d96412df8f774b08a5b2f5f188a7793a63e47e944fbb0747ea124fa", func := "binnacle/binnaclelaw10.ParamOrder", spec := "paramOrder", apart := false, narrowed := true }
def ParamOrderUptoSaid : Prop := paramOrderUptoRow.holds Try.pinned (OpenSpec.upto paramOrderSpec)

/-- 'binnaclelaw10.ParamAny', WHERE WHAT IT READS IS OF BULK AT MOST 1048576: true; the input reads as it did. -/
def paramAnyUptoRow : OpenClaim := { program := "ytldpbpgceplejaa", sum := "54e4294e0d96412df8f774b08a5b2f5f188a7793a63e47e944fbb0747ea124fa", func := "binnacle/binnaclelaw10.ParamAny", spec := "paramAny", apart := false, narrowed := true }
def ParamAnyUptoSaid : Prop := paramAnyUptoRow.holds Try.pinned (OpenSpec.upto paramAnySpec)

/-- 'binnaclelaw04.KdfExpands', WHERE WHAT IT READS IS OF BULK AT MOST 1048576: true; the input reads as it did. -/
def kdfExpandsUptoRow : OpenClaim := { program := "ytldpbpgceplejaa", sum := "54e4294e0d96412df8f774b08a5b2f5f188a7793a63e47e944fbb0747ea124fa", func := "binnacle/binnaclelaw04.KdfExpands", spec := "kdfExpands", inPlace := ["math/bits.Add64", "sync/atomic.LoadUint32", "(*internal/sync.Mutex).Lock", "internal/race.Disable", "sync/atomic.CompareAndSwapInt32", "internal/race.Enable", "internal/race.Acquire", "(*internal/sync.Mutex).lockSlow", "internal/sync.runtime_canSpin", "internal/sync.runtime_doSpin", "internal/sync.throw", "internal/sync.runtime_nanotime", "internal/sync.runtime_SemacquireMutex", "sync/atomic.AddInt32", "(*internal/sync.Mutex).Unlock", "internal/race.ReleaseMerge", "(*internal/sync.Mutex).unlockSlow", "internal/sync.fatal", "internal/sync.runtime_Semrelease", "sync/atomic.StoreUint32"], unfollowed := true, recurses := true, apart := false, narrowed := true }
def KdfExpandsUptoSaid : Prop := kdfExpandsUptoRow.holds Try.pinned (OpenSpec.upto kdfExpandsSpec)

/-- 'binnaclelaw04.KdfLabels', WHERE WHAT IT READS IS OF BULK AT MOST 1048576: true; the input reads as it did. -/
def kdfLabelsUptoRow : OpenClaim := { program := "ytldpbpgceplejaa", sum := "54e4294e0d96412df8f774b08a5b2f5f188a7793a63e47e944fbb0747ea124fa", func := "binnacle/binnaclelaw04.KdfLabels", spec := "kdfLabels", inPlace := ["math/bits.Add64", "sync/atomic.LoadUint32", "(*internal/sync.Mutex).Lock", "internal/race.Disable", "sync/atomic.CompareAndSwapInt32", "internal/race.Enable", "internal/race.Acquire", "(*internal/sync.Mutex).lockSlow", "internal/sync.runtime_canSpin", "internal/sync.runtime_doSpin", "internal/sync.throw", "internal/sync.runtime_nanotime", "internal/sync.runtime_SemacquireMutex", "sync/atomic.AddInt32", "(*internal/sync.Mutex).Unlock", "internal/race.ReleaseMerge", "(*internal/sync.Mutex).unlockSlow", "internal/sync.fatal", "internal/sync.runtime_Semrelease", "sync/atomic.StoreUint32"], unfollowed := true, recurses := true, apart := false, narrowed := true }
def KdfLabelsUptoSaid : Prop := kdfLabelsUptoRow.holds Try.pinned (OpenSpec.upto kdfLabelsSpec)

/-- 'binnaclelaw04.KdfDerives', WHERE WHAT IT READS IS OF BULK AT MOST 1048576: true; the input reads as it did. -/
def kdfDerivesUptoRow : OpenClaim := { program := "ytldpbpgceplejaa", sum := "54e4294e0d96412df8f774b08a5b2f5f188a7793a63e47e944fbb0747ea124fa", func := "binnacle/binnaclelaw04.KdfDerives", spec := "kdfDerives", inPlace := ["math/bits.Add64", "sync/atomic.LoadUint32", "(*internal/sync.Mutex).Lock", "internal/race.Disable", "sync/atomic.CompareAndSwapInt32", "internal/race.Enable", "internal/race.Acquire", "(*internal/sync.Mutex).lockSlow", "internal/sync.runtime_canSpin", "internal/sync.runtime_doSpin", "internal/sync.throw", "internal/sync.runtime_nanotime", "internal/sync.runtime_SemacquireMutex", "sync/atomic.AddInt32", "(*internal/sync.Mutex).Unlock", "internal/race.ReleaseMerge", "(*internal/sync.Mutex).unlockSlow", "internal/sync.fatal", "internal/sync.runtime_Semrelease", "sync/atomic.StoreUint32"], unfollowed := true, recurses := true, apart := false, narrowed := true }
def KdfDerivesUptoSaid : Prop := kdfDerivesUptoRow.holds Try.pinned (OpenSpec.upto kdfDerivesSpec)

/-- 'binnaclelaw04.KdfNone', WHERE WHAT IT READS IS OF BULK AT MOST 1048576: true; the input reads as it did. -/
def kdfNoneUptoRow : OpenClaim := { program := "ytldpbpgceplejaa", sum := "54e4294e0d96412df8f774b08a5b2f5f188a7793a63e47e944fbb0747ea124fa", func := "binnacle/binnaclelaw04.KdfNone", spec := "kdfNone", inPlace := ["math/bits.Add64", "sync/atomic.LoadUint32", "(*internal/sync.Mutex).Lock", "internal/race.Disable", "sync/atomic.CompareAndSwapInt32", "internal/race.Enable", "internal/race.Acquire", "(*internal/sync.Mutex).lockSlow", "internal/sync.runtime_canSpin", "internal/sync.runtime_doSpin", "internal/sync.throw", "internal/sync.runtime_nanotime", "internal/sync.runtime_SemacquireMutex", "sync/atomic.AddInt32", "(*internal/sync.Mutex).Unlock", "internal/race.ReleaseMerge", "(*internal/sync.Mutex).unlockSlow", "internal/sync.fatal", "internal/sync.runtime_Semrelease", "sync/atomic.StoreUint32"], unfollowed := true, recurses := true, apart := false, narrowed := true }
def KdfNoneUptoSaid : Prop := kdfNoneUptoRow.holds Try.pinned (OpenSpec.upto kdfNoneSpec)

/-- 'binnaclelaw25.BlogAny', WHERE WHAT IT READS IS OF BULK AT MOST 1048576: true; the input reads as it did. -/
def blogAnyUptoRow : OpenClaim := { program := "ytldpbpgceplejaa", sum := "54e4294e0d96412df8f774b08a5b2f5f188a7793a63e47e944fbb0747ea124fa", func := "binnacle/binnaclelaw25.BlogAny", spec := "blogAny", apart := false, narrowed := true }
def BlogAnyUptoSaid : Prop := blogAnyUptoRow.holds Try.pinned (OpenSpec.upto blogAnySpec)

/-- 'binnaclelaw09.HeaderBack', WHERE WHAT IT READS IS OF BULK AT MOST 1048576: true; the input reads as it did. -/
def headerBackUptoRow : OpenClaim := { program := "ytldpbpgceplejaa", sum := "54e4294e0d96412df8f774b08a5b2f5f188a7793a63e47e944fbb0747ea124fa", func := "binnacle/binnaclelaw09.HeaderBack", spec := "headerBack", apart := false, narrowed := true }
def HeaderBackUptoSaid : Prop := headerBackUptoRow.holds Try.pinned (OpenSpec.upto headerBackSpec)

/-- 'binnaclelaw09.HeaderAny', WHERE WHAT IT READS IS OF BULK AT MOST 1048576: true; the input reads as it did. -/
def headerAnyUptoRow : OpenClaim := { program := "ytldpbpgceplejaa", sum := "54e4294e0d96412df8f774b08a5b2f5f188a7793a63e47e944fbb0747ea124fa", func := "binnacle/binnaclelaw09.HeaderAny", spec := "headerAny", apart := false, narrowed := true }
def HeaderAnyUptoSaid : Prop := headerAnyUptoRow.holds Try.pinned (OpenSpec.upto headerAnySpec)

/-- 'binnaclelaw25.BlogBytes', WHERE WHAT IT READS IS OF BULK AT MOST 1048576: true; the input reads as it did. -/
def blogBytesUptoRow : OpenClaim := { program := "ytldpbpgceplejaa", sum := "54e4294e0d96412df8f774b08a5b2f5f188a7793a63e47e944fbb0747ea124fa", func := "binnacle/binnaclelaw25.BlogBytes", spec := "blogBytes", apart := false, narrowed := true }
def BlogBytesUptoSaid : Prop := blogBytesUptoRow.holds Try.pinned (OpenSpec.upto blogBytesSpec)

/-- 'binnaclelaw11.KeysInitial', WHERE WHAT IT READS IS OF BULK AT MOST 1048576: true; the input reads as it did. -/
def keysInitialUptoRow : OpenClaim := { program := "ytldpbpgceplejaa", sum := "54e4294e0d96412df8f774b08a5b2f5f188a7793a63e47e944fbb0747ea124fa", func := "binnacle/binnaclelaw11.KeysInitial", spec := "keysInitial", inPlace := ["math/bits.Add64", "sync/atomic.LoadUint32", "(*internal/sync.Mutex).Lock", "internal/race.Disable", "sync/atomic.CompareAndSwapInt32", "internal/race.Enable", "internal/race.Acquire", "(*internal/sync.Mutex).lockSlow", "internal/sync.runtime_canSpin", "internal/sync.runtime_doSpin", "internal/sync.throw", "internal/sync.runtime_nanotime", "internal/sync.runtime_SemacquireMutex", "sync/atomic.AddInt32", "(*internal/sync.Mutex).Unlock", "internal/race.ReleaseMerge", "(*internal/sync.Mutex).unlockSlow", "internal/sync.fatal", "internal/sync.runtime_Semrelease", "sync/atomic.StoreUint32", "sync/atomic.AddInt64"], unfollowed := true, recurses := true, apart := false, narrowed := true }
def KeysInitialUptoSaid : Prop := keysInitialUptoRow.holds Try.pinned (OpenSpec.upto keysInitialSpec)

/-- 'binnaclelaw28.ReplayAll', WHERE WHAT IT READS IS OF BULK AT MOST 1048576: true; the input reads as it did. -/
def replayAllUptoRow : OpenClaim := { program := "ytldpbpgceplejaa", sum := "54e4294e0d96412df8f774b08a5b2f5f188a7793a63e47e944fbb0747ea124fa", func := "binnacle/binnaclelaw28.ReplayAll", spec := "replayAll", unfollowed := true, recurses := true, apart := false, narrowed := true }
def ReplayAllUptoSaid : Prop := replayAllUptoRow.holds Try.pinned (OpenSpec.upto replayAllSpec)

end Rows
end Go.Proofs.Ytldpbpgceplejaa
