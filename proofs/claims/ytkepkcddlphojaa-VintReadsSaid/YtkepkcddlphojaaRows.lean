/-
  No cell of these rows narrows 'for every input' (looked for: loops, veiled, ifaces, maps, wideKeys, modest, calm, conditions, laid).
  DERIVED. THE GIVEN ROWS OF THIS SEAT. 12 by the template 'for every input the law returns true; each argument reads behind the call as it read before'; 0 by the template 'total and deterministic' (their statements: YtkepkcddlphojaaTotals.lean).
  GIVEN WITH THE SEED: the statements are not yours to turn. If you find one false, say at which input.
  Laid BY PROGRAM, IN A SANDBOX (cutbox-rows.mjs): the forced cells as the released guide's own fill.sh prints them over the translation 231dafc0b2a94ff5… (all of the seat's roots in one cut). By AI agents, Wed Nov 11 2026. No macro, syntax, notation, axiom, sorry.
-/
import Derived.Test.YtkepkcddlphojaaChecked
import GoSem.Claim
import GoSem.ClaimJoined
import GoSem.ClaimMapViews
import Derived.JoinedTies
import Derived.KernelRfl
namespace Go.Proofs.Ytkepkcddlphojaa
/- THE CELL 'sum', in the pinned program and in every row, IS THE sha256 OF THE DUMP (.gsa) THAT YtkepkcddlphojaaProg.lean LOADS. Nothing in Lean hashes anything: it is a label: what it is worth is what the hold of that sum in a sandbox is worth. -/
noncomputable def Try.pinned : Pinned := { name := "ytkepkcddlphojaa", sum := "231dafc0b2a94ff5494992fdb9dde1511de3b71711effb6689c0adeb0159794b", checked := Try.checked }
namespace Rows
def none {H : Type} : Left H := { results := [], args := [] }

/-- 'binnaclelaw23.PathRoom': WHATEVER THE INPUT: true; the input reads as it did. -/
def pathRoomSpec : ChangeSpec := { name := "pathRoom", fn := fun _ => fun
  | [d1, d2] => { results := [.lit (.bool true)], args := [d1, d2] }
  | _ => none }
def pathRoomRow : OpenClaim := { program := "ytkepkcddlphojaa", sum := "231dafc0b2a94ff5494992fdb9dde1511de3b71711effb6689c0adeb0159794b", func := "binnacle/binnaclelaw23.PathRoom", spec := "pathRoom", apart := false }
def PathRoomSaid : Prop := pathRoomRow.holds Try.pinned (OpenSpec.ofChange pathRoomSpec)

/-- ITS FALSE NEIGHBOUR: 'it returns false'. Refute it at one input. -/
def pathRoomWrong : ChangeSpec := { name := "pathRoom", fn := fun _ => fun
  | [d1, d2] => { results := [.lit (.bool false)], args := [d1, d2] }
  | _ => none }
def PathRoomWrongFalsely : Prop := pathRoomRow.holds Try.pinned (OpenSpec.ofChange pathRoomWrong)

/-- 'binnaclelaw01.VintBytes': WHATEVER THE INPUT: true; the input reads as it did. -/
def vintBytesSpec : ChangeSpec := { name := "vintBytes", fn := fun _ => fun
  | [d1, d2, d3, d4] => { results := [.lit (.bool true)], args := [d1, d2, d3, d4] }
  | _ => none }
def vintBytesRow : OpenClaim := { program := "ytkepkcddlphojaa", sum := "231dafc0b2a94ff5494992fdb9dde1511de3b71711effb6689c0adeb0159794b", func := "binnacle/binnaclelaw01.VintBytes", spec := "vintBytes", apart := false }
def VintBytesSaid : Prop := vintBytesRow.holds Try.pinned (OpenSpec.ofChange vintBytesSpec)

/-- ITS FALSE NEIGHBOUR: 'it returns false'. Refute it at one input. -/
def vintBytesWrong : ChangeSpec := { name := "vintBytes", fn := fun _ => fun
  | [d1, d2, d3, d4] => { results := [.lit (.bool false)], args := [d1, d2, d3, d4] }
  | _ => none }
def VintBytesWrongFalsely : Prop := vintBytesRow.holds Try.pinned (OpenSpec.ofChange vintBytesWrong)

/-- 'binnaclelaw01.VintTakes': WHATEVER THE INPUT: true; the input reads as it did. -/
def vintTakesSpec : ChangeSpec := { name := "vintTakes", fn := fun _ => fun
  | [d] => { results := [.lit (.bool true)], args := [d] }
  | _ => none }
def vintTakesRow : OpenClaim := { program := "ytkepkcddlphojaa", sum := "231dafc0b2a94ff5494992fdb9dde1511de3b71711effb6689c0adeb0159794b", func := "binnacle/binnaclelaw01.VintTakes", spec := "vintTakes", apart := false }
def VintTakesSaid : Prop := vintTakesRow.holds Try.pinned (OpenSpec.ofChange vintTakesSpec)

/-- ITS FALSE NEIGHBOUR: 'it returns false'. Refute it at one input. -/
def vintTakesWrong : ChangeSpec := { name := "vintTakes", fn := fun _ => fun
  | [d] => { results := [.lit (.bool false)], args := [d] }
  | _ => none }
def VintTakesWrongFalsely : Prop := vintTakesRow.holds Try.pinned (OpenSpec.ofChange vintTakesWrong)

/-- 'binnaclelaw01.VintWrites': WHATEVER THE INPUT: true; the input reads as it did. -/
def vintWritesSpec : ChangeSpec := { name := "vintWrites", fn := fun _ => fun
  | [d1, d2, d3] => { results := [.lit (.bool true)], args := [d1, d2, d3] }
  | _ => none }
def vintWritesRow : OpenClaim := { program := "ytkepkcddlphojaa", sum := "231dafc0b2a94ff5494992fdb9dde1511de3b71711effb6689c0adeb0159794b", func := "binnacle/binnaclelaw01.VintWrites", spec := "vintWrites", apart := false }
def VintWritesSaid : Prop := vintWritesRow.holds Try.pinned (OpenSpec.ofChange vintWritesSpec)

/-- ITS FALSE NEIGHBOUR: 'it returns false'. Refute it at one input. -/
def vintWritesWrong : ChangeSpec := { name := "vintWrites", fn := fun _ => fun
  | [d1, d2, d3] => { results := [.lit (.bool false)], args := [d1, d2, d3] }
  | _ => none }
def VintWritesWrongFalsely : Prop := vintWritesRow.holds Try.pinned (OpenSpec.ofChange vintWritesWrong)

/-- 'binnaclelaw23.PathNone': WHATEVER THE INPUT: true; the input reads as it did. -/
def pathNoneSpec : ChangeSpec := { name := "pathNone", fn := fun _ => fun
  | [d1, d2, d3] => { results := [.lit (.bool true)], args := [d1, d2, d3] }
  | _ => none }
def pathNoneRow : OpenClaim := { program := "ytkepkcddlphojaa", sum := "231dafc0b2a94ff5494992fdb9dde1511de3b71711effb6689c0adeb0159794b", func := "binnacle/binnaclelaw23.PathNone", spec := "pathNone", apart := false }
def PathNoneSaid : Prop := pathNoneRow.holds Try.pinned (OpenSpec.ofChange pathNoneSpec)

/-- ITS FALSE NEIGHBOUR: 'it returns false'. Refute it at one input. -/
def pathNoneWrong : ChangeSpec := { name := "pathNone", fn := fun _ => fun
  | [d1, d2, d3] => { results := [.lit (.bool false)], args := [d1, d2, d3] }
  | _ => none }
def PathNoneWrongFalsely : Prop := pathNoneRow.holds Try.pinned (OpenSpec.ofChange pathNoneWrong)

/-- 'binnaclelaw10.ParamSame': WHATEVER THE INPUT: true; the input reads as it did. -/
def paramSameSpec : ChangeSpec := { name := "paramSame", fn := fun _ => fun
  | [d1, d2, d3] => { results := [.lit (.bool true)], args := [d1, d2, d3] }
  | _ => none }
def paramSameRow : OpenClaim := { program := "ytkepkcddlphojaa", sum := "231dafc0b2a94ff5494992fdb9dde1511de3b71711effb6689c0adeb0159794b", func := "binnacle/binnaclelaw10.ParamSame", spec := "paramSame", apart := false }
def ParamSameSaid : Prop := paramSameRow.holds Try.pinned (OpenSpec.ofChange paramSameSpec)

/-- ITS FALSE NEIGHBOUR: 'it returns false'. Refute it at one input. -/
def paramSameWrong : ChangeSpec := { name := "paramSame", fn := fun _ => fun
  | [d1, d2, d3] => { results := [.lit (.bool false)], args := [d1, d2, d3] }
  | _ => none }
def ParamSameWrongFalsely : Prop := paramSameRow.holds Try.pinned (OpenSpec.ofChange paramSameWrong)

/-- 'binnaclelaw01.VintReads': WHATEVER THE INPUT: true; the input reads as it did. -/
def vintReadsSpec : ChangeSpec := { name := "vintReads", fn := fun _ => fun
  | [d1, d2, d3] => { results := [.lit (.bool true)], args := [d1, d2, d3] }
  | _ => none }
def vintReadsRow : OpenClaim := { program := "ytkepkcddlphojaa", sum := "231dafc0b2a94ff5494992fdb9dde1511de3b71711effb6689c0adeb0159794b", func := "binnacle/binnaclelaw01.VintReads", spec := "vintReads", unfollowed := true, recurses := true, apart := false }
def VintReadsSaid : Prop := vintReadsRow.holds Try.pinned (OpenSpec.ofChange vintReadsSpec)

/-- ITS FALSE NEIGHBOUR: 'it returns false'. Refute it at one input. -/
def vintReadsWrong : ChangeSpec := { name := "vintReads", fn := fun _ => fun
  | [d1, d2, d3] => { results := [.lit (.bool false)], args := [d1, d2, d3] }
  | _ => none }
def VintReadsWrongFalsely : Prop := vintReadsRow.holds Try.pinned (OpenSpec.ofChange vintReadsWrong)

/-- 'binnaclelaw25.BlogErrors': WHATEVER THE INPUT: true; the input reads as it did. -/
def blogErrorsSpec : ChangeSpec := { name := "blogErrors", fn := fun _ => fun
  | [d1, d2, d3, d4] => { results := [.lit (.bool true)], args := [d1, d2, d3, d4] }
  | _ => none }
def blogErrorsRow : OpenClaim := { program := "ytkepkcddlphojaa", sum := "231dafc0b2a94ff5494992fdb9dde1511de3b71711effb6689c0adeb0159794b", func := "binnacle/binnaclelaw25.BlogErrors", spec := "blogErrors", unfollowed := true, recurses := true, apart := false }
def BlogErrorsSaid : Prop := blogErrorsRow.holds Try.pinned (OpenSpec.ofChange blogErrorsSpec)

/-- ITS FALSE NEIGHBOUR: 'it returns false'. Refute it at one input. -/
def blogErrorsWrong : ChangeSpec := { name := "blogErrors", fn := fun _ => fun
  | [d1, d2, d3, d4] => { results := [.lit (.bool false)], args := [d1, d2, d3, d4] }
  | _ => none }
def BlogErrorsWrongFalsely : Prop := blogErrorsRow.holds Try.pinned (OpenSpec.ofChange blogErrorsWrong)

/-- 'binnaclelaw01.VintNone': WHATEVER THE INPUT: true; the input reads as it did. -/
def vintNoneSpec : ChangeSpec := { name := "vintNone", fn := fun _ => fun
  | [d1, d2, d3] => { results := [.lit (.bool true)], args := [d1, d2, d3] }
  | _ => none }
def vintNoneRow : OpenClaim := { program := "ytkepkcddlphojaa", sum := "231dafc0b2a94ff5494992fdb9dde1511de3b71711effb6689c0adeb0159794b", func := "binnacle/binnaclelaw01.VintNone", spec := "vintNone", apart := false }
def VintNoneSaid : Prop := vintNoneRow.holds Try.pinned (OpenSpec.ofChange vintNoneSpec)

/-- ITS FALSE NEIGHBOUR: 'it returns false'. Refute it at one input. -/
def vintNoneWrong : ChangeSpec := { name := "vintNone", fn := fun _ => fun
  | [d1, d2, d3] => { results := [.lit (.bool false)], args := [d1, d2, d3] }
  | _ => none }
def VintNoneWrongFalsely : Prop := vintNoneRow.holds Try.pinned (OpenSpec.ofChange vintNoneWrong)

/-- 'binnaclelaw03.ShaSums': WHATEVER THE INPUT: true; the input reads as it did. -/
def shaSumsSpec : ChangeSpec := { name := "shaSums", fn := fun _ => fun
  | [d1, d2, d3] => { results := [.lit (.bool true)], args := [d1, d2, d3] }
  | _ => none }
def shaSumsRow : OpenClaim := { program := "ytkepkcddlphojaa", sum := "231dafc0b2a94ff5494992fdb9dde1511de3b71711effb6689c0adeb0159794b", func := "binnacle/binnaclelaw03.ShaSums", spec := "shaSums", inPlace := ["math/bits.Add64", "sync/atomic.LoadUint32", "(*internal/sync.Mutex).Lock", "internal/race.Disable", "sync/atomic.CompareAndSwapInt32", "internal/race.Enable", "internal/race.Acquire", "(*internal/sync.Mutex).lockSlow", "internal/sync.runtime_canSpin", "internal/sync.runtime_doSpin", "internal/sync.throw", "internal/sync.runtime_nanotime", "internal/sync.runtime_SemacquireMutex", "sync/atomic.AddInt32", "(*internal/sync.Mutex).Unlock", "internal/race.ReleaseMerge", "(*internal/sync.Mutex).unlockSlow", "internal/sync.fatal", "internal/sync.runtime_Semrelease", "sync/atomic.StoreUint32"], unfollowed := true, recurses := true, apart := false }
def ShaSumsSaid : Prop := shaSumsRow.holds Try.pinned (OpenSpec.ofChange shaSumsSpec)

/-- ITS FALSE NEIGHBOUR: 'it returns false'. Refute it at one input. -/
def shaSumsWrong : ChangeSpec := { name := "shaSums", fn := fun _ => fun
  | [d1, d2, d3] => { results := [.lit (.bool false)], args := [d1, d2, d3] }
  | _ => none }
def ShaSumsWrongFalsely : Prop := shaSumsRow.holds Try.pinned (OpenSpec.ofChange shaSumsWrong)

/-- 'binnaclelaw03.ShaMarks': WHATEVER THE INPUT: true; the input reads as it did. -/
def shaMarksSpec : ChangeSpec := { name := "shaMarks", fn := fun _ => fun
  | [d1, d2, d3] => { results := [.lit (.bool true)], args := [d1, d2, d3] }
  | _ => none }
def shaMarksRow : OpenClaim := { program := "ytkepkcddlphojaa", sum := "231dafc0b2a94ff5494992fdb9dde1511de3b71711effb6689c0adeb0159794b", func := "binnacle/binnaclelaw03.ShaMarks", spec := "shaMarks", inPlace := ["math/bits.Add64", "sync/atomic.LoadUint32", "(*internal/sync.Mutex).Lock", "internal/race.Disable", "sync/atomic.CompareAndSwapInt32", "internal/race.Enable", "internal/race.Acquire", "(*internal/sync.Mutex).lockSlow", "internal/sync.runtime_canSpin", "internal/sync.runtime_doSpin", "internal/sync.throw", "internal/sync.runtime_nanotime", "internal/sync.runtime_SemacquireMutex", "sync/atomic.AddInt32", "(*internal/sync.Mutex).Unlock", "internal/race.ReleaseMerge", "(*internal/sync.Mutex).unlockSlow", "internal/sync.fatal", "internal/sync.runtime_Semrelease", "sync/atomic.StoreUint32"], unfollowed := true, recurses := true, apart := false }
def ShaMarksSaid : Prop := shaMarksRow.holds Try.pinned (OpenSpec.ofChange shaMarksSpec)

/-- ITS FALSE NEIGHBOUR: 'it returns false'. Refute it at one input. -/
def shaMarksWrong : ChangeSpec := { name := "shaMarks", fn := fun _ => fun
  | [d1, d2, d3] => { results := [.lit (.bool false)], args := [d1, d2, d3] }
  | _ => none }
def ShaMarksWrongFalsely : Prop := shaMarksRow.holds Try.pinned (OpenSpec.ofChange shaMarksWrong)

/-- 'binnaclelaw03.ShaKnown': WHATEVER THE INPUT: true; the input reads as it did. -/
def shaKnownSpec : ChangeSpec := { name := "shaKnown", fn := fun _ => fun
  | [d] => { results := [.lit (.bool true)], args := [d] }
  | _ => none }
def shaKnownRow : OpenClaim := { program := "ytkepkcddlphojaa", sum := "231dafc0b2a94ff5494992fdb9dde1511de3b71711effb6689c0adeb0159794b", func := "binnacle/binnaclelaw03.ShaKnown", spec := "shaKnown", inPlace := ["math/bits.Add64", "sync/atomic.LoadUint32", "(*internal/sync.Mutex).Lock", "internal/race.Disable", "sync/atomic.CompareAndSwapInt32", "internal/race.Enable", "internal/race.Acquire", "(*internal/sync.Mutex).lockSlow", "internal/sync.runtime_canSpin", "internal/sync.runtime_doSpin", "internal/sync.throw", "internal/sync.runtime_nanotime", "internal/sync.runtime_SemacquireMutex", "sync/atomic.AddInt32", "(*internal/sync.Mutex).Unlock", "internal/race.ReleaseMerge", "(*internal/sync.Mutex).unlockSlow", "internal/sync.fatal", "internal/sync.runtime_Semrelease", "sync/atomic.StoreUint32"], unfollowed := true, recurses := true, apart := false }
def ShaKnownSaid : Prop := shaKnownRow.holds Try.pinned (OpenSpec.ofChange shaKnownSpec)

/-- ITS FALSE NEIGHBOUR: 'it returns false'. Refute it at one input. -/
def shaKnownWrong : ChangeSpec := { name := "shaKnown", fn := fun _ => fun
  | [d] => { results := [.lit (.bool false)], args := [d] }
  | _ => none }
def ShaKnownWrongFalsely : Prop := shaKnownRow.holds Try.pinned (OpenSpec.ofChange shaKnownWrong)

/- THE SECOND FORM. 'bulk': how many values and letters a reading holds, each counted each time it is reached (what is shared counts as often as it is met; a slice's spare places count too). A statement '..UptoSaid' is the law's where the arguments, and the package variables that the reading takes, are together of bulk at most 1048576: NARROWER than '..Said'. Prove '..Said' where nothing that the law and all that it calls make is longer than what came in: it says more and counts as full. Else prove '..UptoSaid'. A law counts once. -/
mutual
def uptoBulk {H : Type} : DataW H → Nat
  | .lit (.string bytes) => bytes.length + 1
  | .lit _ => 1
  | .nil => 1
  | .ptr d => uptoBulk d + 1
  | .slice elems spare => uptoBulkAll elems + uptoBulkAll spare + 1
  | .agg parts => uptoBulkAll parts + 1
  | .iface _ d => uptoBulk d + 1
  | .map entries => uptoBulkEntries entries + 1
  | .held _ => 1
def uptoBulkAll {H : Type} : List (DataW H) → Nat
  | [] => 0
  | d :: r => uptoBulk d + uptoBulkAll r
def uptoBulkEntries {H : Type} : List (Lit × DataW H) → Nat
  | [] => 0
  | x :: r => uptoBulkEntry x + uptoBulkEntries r
def uptoBulkEntry {H : Type} : Lit × DataW H → Nat
  | (.string bytes, d) => bytes.length + uptoBulk d + 1
  | (_, d) => uptoBulk d + 1
 end
def uptoSmall : (H : Type) → List (DataW H) → Bool := fun _ ds => decide (uptoBulkAll ds ≤ 1048576)
def OpenSpec.upto (s : _root_.Go.ChangeSpec) : _root_.Go.OpenSpec := { _root_.Go.OpenSpec.ofChange s with cond := some uptoSmall }

/-- 'binnaclelaw23.PathRoom', WHERE WHAT IT READS IS OF BULK AT MOST 1048576: true; the input reads as it did. -/
def pathRoomUptoRow : OpenClaim := { program := "ytkepkcddlphojaa", sum := "231dafc0b2a94ff5494992fdb9dde1511de3b71711effb6689c0adeb0159794b", func := "binnacle/binnaclelaw23.PathRoom", spec := "pathRoom", apart := false, narrowed := true }
def PathRoomUptoSaid : Prop := pathRoomUptoRow.holds Try.pinned (OpenSpec.upto pathRoomSpec)

/-- 'binnaclelaw01.VintBytes', WHERE WHAT IT READS IS OF BULK AT MOST 1048576: true; the input reads as it did. -/
def vintBytesUptoRow : OpenClaim := { program := "ytkepkcddlphojaa", sum := "231dafc0b2a94ff5494992fdb9dde1511de3b71711effb6689c0adeb0159794b", func := "binnacle/binnaclelaw01.VintBytes", spec := "vintBytes", apart := false, narrowed := true }
def VintBytesUptoSaid : Prop := vintBytesUptoRow.holds Try.pinned (OpenSpec.upto vintBytesSpec)

/-- 'binnaclelaw01.VintTakes', WHERE WHAT IT READS IS OF BULK AT MOST 1048576: true; the input reads as it did. -/
def vintTakesUptoRow : OpenClaim := { program := "ytkepkcddlphojaa", sum := "231dafc0b2a94ff5494992fdb9dde1511de3b71711effb6689c0adeb0159794b", func := "binnacle/binnaclelaw01.VintTakes", spec := "vintTakes", apart := false, narrowed := true }
def VintTakesUptoSaid : Prop := vintTakesUptoRow.holds Try.pinned (OpenSpec.upto vintTakesSpec)

/-- 'binnaclelaw01.VintWrites', WHERE WHAT IT READS IS OF BULK AT MOST 1048576: true; the input reads as it did. -/
def vintWritesUptoRow : OpenClaim := { program := "ytkepkcddlphojaa", sum := "231dafc0b2a94ff5494992fdb9dde1511de3b71711effb6689c0adeb0159794b", func := "binnacle/binnaclelaw01.VintWrites", spec := "vintWrites", apart := false, narrowed := true }
def VintWritesUptoSaid : Prop := vintWritesUptoRow.holds Try.pinned (OpenSpec.upto vintWritesSpec)

/-- 'binnaclelaw23.PathNone', WHERE WHAT IT READS IS OF BULK AT MOST 1048576: true; the input reads as it did. -/
def pathNoneUptoRow : OpenClaim := { program := "ytkepkcddlphojaa", sum := "231dafc0b2a94ff5494992fdb9dde1511de3b71711effb6689c0adeb0159794b", func := "binnacle/binnaclelaw23.PathNone", spec := "pathNone", apart := false, narrowed := true }
def PathNoneUptoSaid : Prop := pathNoneUptoRow.holds Try.pinned (OpenSpec.upto pathNoneSpec)

/-- 'binnaclelaw10.ParamSame', WHERE WHAT IT READS IS OF BULK AT MOST 1048576: true; the input reads as it did. -/
def paramSameUptoRow : OpenClaim := { program := "ytkepkcddlphojaa", sum := "231dafc0b2a94ff5494992fdb9dde1511de3b71711effb6689c0adeb0159794b", func := "binnacle/binnaclelaw10.ParamSame", spec := "paramSame", apart := false, narrowed := true }
def ParamSameUptoSaid : Prop := paramSameUptoRow.holds Try.pinned (OpenSpec.upto paramSameSpec)

/-- 'binnaclelaw01.VintReads', WHERE WHAT IT READS IS OF BULK AT MOST 1048576: true; the input reads as it did. -/
def vintReadsUptoRow : OpenClaim := { program := "ytkepkcddlphojaa", sum := "231dafc0b2a94ff5494992fdb9dde1511de3b71711effb6689c0adeb0159794b", func := "binnacle/binnaclelaw01.VintReads", spec := "vintReads", unfollowed := true, recurses := true, apart := false, narrowed := true }
def VintReadsUptoSaid : Prop := vintReadsUptoRow.holds Try.pinned (OpenSpec.upto vintReadsSpec)

/-- 'binnaclelaw25.BlogErrors', WHERE WHAT IT READS IS OF BULK AT MOST 1048576: true; the input reads as it did. -/
def blogErrorsUptoRow : OpenClaim := { program := "ytkepkcddlphojaa", sum := "231dafc0b2a94ff5494992fdb9dde1511de3b71711effb6689c0adeb0159794b", func := "binnacle/binnaclelaw25.BlogErrors", spec := "blogErrors", unfollowed := true, recurses := true, apart := false, narrowed := true }
def BlogErrorsUptoSaid : Prop := blogErrorsUptoRow.holds Try.pinned (OpenSpec.upto blogErrorsSpec)

/-- 'binnaclelaw01.VintNone', WHERE WHAT IT READS IS OF BULK AT MOST 1048576: true; the input reads as it did. -/
def vintNoneUptoRow : OpenClaim := { program := "ytkepkcddlphojaa", sum := "231dafc0b2a94ff5494992fdb9dde1511de3b71711effb6689c0adeb0159794b", func := "binnacle/binnaclelaw01.VintNone", spec := "vintNone", apart := false, narrowed := true }
def VintNoneUptoSaid : Prop := vintNoneUptoRow.holds Try.pinned (OpenSpec.upto vintNoneSpec)

/-- 'binnaclelaw03.ShaSums', WHERE WHAT IT READS IS OF BULK AT MOST 1048576: true; the input reads as it did. -/
def shaSumsUptoRow : OpenClaim := { program := "ytkepkcddlphojaa", sum := "231dafc0b2a94ff5494992fdb9dde1511de3b71711effb6689c0adeb0159794b", func := "binnacle/binnaclelaw03.ShaSums", spec := "shaSums", inPlace := ["math/bits.Add64", "sync/atomic.LoadUint32", "(*internal/sync.Mutex).Lock", "internal/race.Disable", "sync/atomic.CompareAndSwapInt32", "internal/race.Enable", "internal/race.Acquire", "(*internal/sync.Mutex).lockSlow", "internal/sync.runtime_canSpin", "internal/sync.runtime_doSpin", "internal/sync.throw", "internal/sync.runtime_nanotime", "internal/sync.runtime_SemacquireMutex", "sync/atomic.AddInt32", "(*internal/sync.Mutex).Unlock", "internal/race.ReleaseMerge", "(*internal/sync.Mutex).unlockSlow", "internal/sync.fatal", "internal/sync.runtime_Semrelease", "sync/atomic.StoreUint32"], unfollowed := true, recurses := true, apart := false, narrowed := true }
def ShaSumsUptoSaid : Prop := shaSumsUptoRow.holds Try.pinned (OpenSpec.upto shaSumsSpec)

/-- 'binnaclelaw03.ShaMarks', WHERE WHAT IT READS IS OF BULK AT MOST 1048576: true; the input reads as it did. -/
def shaMarksUptoRow : OpenClaim := { program := "ytkepkcddlphojaa", sum := "231dafc0b2a94ff5494992fdb9dde1511de3b71711effb6689c0adeb0159794b", func := "binnacle/binnaclelaw03.ShaMarks", spec := "shaMarks", inPlace := ["math/bits.Add64", "sync/atomic.LoadUint32", "(*internal/sync.Mutex).Lock", "internal/race.Disable", "sync/atomic.CompareAndSwapInt32", "internal/race.Enable", "internal/race.Acquire", "(*internal/sync.Mutex).lockSlow", "internal/sync.runtime_canSpin", "internal/sync.runtime_doSpin", "internal/sync.throw", "internal/sync.runtime_nanotime", "internal/sync.runtime_SemacquireMutex", "sync/atomic.AddInt32", "(*internal/sync.Mutex).Unlock", "internal/race.ReleaseMerge", "(*internal/sync.Mutex).unlockSlow", "internal/sync.fatal", "internal/sync.runtime_Semrelease", "sync/atomic.StoreUint32"], unfollowed := true, recurses := true, apart := false, narrowed := true }
def ShaMarksUptoSaid : Prop := shaMarksUptoRow.holds Try.pinned (OpenSpec.upto shaMarksSpec)

/-- 'binnaclelaw03.ShaKnown', WHERE WHAT IT READS IS OF BULK AT MOST 1048576: true; the input reads as it did. -/
def shaKnownUptoRow : OpenClaim := { program := "ytkepkcddlphojaa", sum := "231dafc0b2a94ff5494992fdb9dde1511de3b71711effb6689c0adeb0159794b", func := "binnacle/binnaclelaw03.ShaKnown", spec := "shaKnown", inPlace := ["math/bits.Add64", "sync/atomic.LoadUint32", "(*internal/sync.Mutex).Lock", "internal/race.Disable", "sync/atomic.CompareAndSwapInt32", "internal/race.Enable", "internal/race.Acquire", "(*internal/sync.Mutex).lockSlow", "internal/sync.runtime_canSpin", "internal/sync.runtime_doSpin", "internal/sync.throw", "internal/sync.runtime_nanotime", "internal/sync.runtime_SemacquireMutex", "sync/atomic.AddInt32", "(*internal/sync.Mutex).Unlock", "internal/race.ReleaseMerge", "(*internal/sync.Mutex).unlockSlow", "internal/sync.fatal", "internal/sync.runtime_Semrelease", "sync/atomic.StoreUint32"], unfollowed := true, recurses := true, apart := false, narrowed := true }
def ShaKnownUptoSaid : Prop := shaKnownUptoRow.holds Try.pinned (OpenSpec.upto shaKnownSpec)

end Rows
end Go.Proofs.Ytkepkcddlphojaa
