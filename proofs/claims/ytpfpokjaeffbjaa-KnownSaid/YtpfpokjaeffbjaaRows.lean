/-
  NARROWER THAN 'FOR EVERY INPUT', by the rows' own cells (each row's printed sentence says how): Honest: calm · Known: calm · Checks: calm · Recombined: calm · Signers: calm · Commits: calm.
  DERIVED. THE GIVEN ROWS OF THIS SEAT. 12 by the template 'for every input the law returns true; each argument reads behind the call as it read before'; 0 by the template 'total and deterministic' (their statements: YtpfpokjaeffbjaaTotals.lean).
  GIVEN WITH THE SEED: the statements are not yours to turn. If you find one false, say at which input.
  Laid BY PROGRAM, IN A SANDBOX (cutbox-rows.mjs): the forced cells as the released guide's own fill.sh prints them over the translation 3bc39302655de6af… (all of the seat's roots in one cut). By AI agents, Wed Nov 11 2026. No macro, syntax, notation, axiom, sorry.
-/
import Derived.Test.YtpfpokjaeffbjaaChecked
import GoSem.Claim
import GoSem.ClaimJoined
import GoSem.ClaimMapViews
import Derived.JoinedTies
import Derived.KernelRfl
namespace Go.Proofs.Ytpfpokjaeffbjaa
/- THE CELL 'sum', in the pinned program and in every row, IS THE sha256 OF THE DUMP (.gsa) THAT YtpfpokjaeffbjaaProg.lean LOADS. Nothing in Lean hashes anything: it is a label: what it is worth is what the hold of that sum in a sandbox is worth. -/
noncomputable def Try.pinned : Pinned := { name := "ytpfpokjaeffbjaa", sum := "3bc39302655de6af0d7870e57b5b506ad6d67981d2509a2f1cf81ba6aa7d5250", checked := Try.checked }
namespace Rows
def none {H : Type} : Left H := { results := [], args := [] }

/-- 'thresholdlaw.Names': WHATEVER THE INPUT: true; the input reads as it did. -/
def namesSpec : ChangeSpec := { name := "names", fn := fun _ => fun
  | [] => { results := [.lit (.bool true)], args := [] }
  | _ => none }
def namesRow : OpenClaim := { program := "ytpfpokjaeffbjaa", sum := "3bc39302655de6af0d7870e57b5b506ad6d67981d2509a2f1cf81ba6aa7d5250", func := "threshold/thresholdlaw.Names", spec := "names", plainKeys := false, apart := false }
def NamesSaid : Prop := namesRow.holds Try.pinned (OpenSpec.ofChange namesSpec)

/-- ITS FALSE NEIGHBOUR: 'it returns false'. Refute it at one input. -/
def namesWrong : ChangeSpec := { name := "names", fn := fun _ => fun
  | [] => { results := [.lit (.bool false)], args := [] }
  | _ => none }
def NamesWrongFalsely : Prop := namesRow.holds Try.pinned (OpenSpec.ofChange namesWrong)

/-- 'thresholdlaw.Packs': WHATEVER THE INPUT: true; the input reads as it did. -/
def packsSpec : ChangeSpec := { name := "packs", fn := fun _ => fun
  | [d] => { results := [.lit (.bool true)], args := [d] }
  | _ => none }
def packsRow : OpenClaim := { program := "ytpfpokjaeffbjaa", sum := "3bc39302655de6af0d7870e57b5b506ad6d67981d2509a2f1cf81ba6aa7d5250", func := "threshold/thresholdlaw.Packs", spec := "packs", plainKeys := false, apart := false }
def PacksSaid : Prop := packsRow.holds Try.pinned (OpenSpec.ofChange packsSpec)

/-- ITS FALSE NEIGHBOUR: 'it returns false'. Refute it at one input. -/
def packsWrong : ChangeSpec := { name := "packs", fn := fun _ => fun
  | [d] => { results := [.lit (.bool false)], args := [d] }
  | _ => none }
def PacksWrongFalsely : Prop := packsRow.holds Try.pinned (OpenSpec.ofChange packsWrong)

/-- 'thresholdlaw.Deals': WHATEVER THE INPUT: true; the input reads as it did. -/
def dealsSpec : ChangeSpec := { name := "deals", fn := fun _ => fun
  | [d1, d2, d3] => { results := [.lit (.bool true)], args := [d1, d2, d3] }
  | _ => none }
def dealsRow : OpenClaim := { program := "ytpfpokjaeffbjaa", sum := "3bc39302655de6af0d7870e57b5b506ad6d67981d2509a2f1cf81ba6aa7d5250", func := "threshold/thresholdlaw.Deals", spec := "deals", recurses := true, plainKeys := false, apart := false }
def DealsSaid : Prop := dealsRow.holds Try.pinned (OpenSpec.ofChange dealsSpec)

/-- ITS FALSE NEIGHBOUR: 'it returns false'. Refute it at one input. -/
def dealsWrong : ChangeSpec := { name := "deals", fn := fun _ => fun
  | [d1, d2, d3] => { results := [.lit (.bool false)], args := [d1, d2, d3] }
  | _ => none }
def DealsWrongFalsely : Prop := dealsRow.holds Try.pinned (OpenSpec.ofChange dealsWrong)

/-- 'thresholdlaw.Unpacks': WHATEVER THE INPUT: true; the input reads as it did. -/
def unpacksSpec : ChangeSpec := { name := "unpacks", fn := fun _ => fun
  | [d] => { results := [.lit (.bool true)], args := [d] }
  | _ => none }
def unpacksRow : OpenClaim := { program := "ytpfpokjaeffbjaa", sum := "3bc39302655de6af0d7870e57b5b506ad6d67981d2509a2f1cf81ba6aa7d5250", func := "threshold/thresholdlaw.Unpacks", spec := "unpacks", recurses := true, plainKeys := false, apart := false }
def UnpacksSaid : Prop := unpacksRow.holds Try.pinned (OpenSpec.ofChange unpacksSpec)

/-- ITS FALSE NEIGHBOUR: 'it returns false'. Refute it at one input. -/
def unpacksWrong : ChangeSpec := { name := "unpacks", fn := fun _ => fun
  | [d] => { results := [.lit (.bool false)], args := [d] }
  | _ => none }
def UnpacksWrongFalsely : Prop := unpacksRow.holds Try.pinned (OpenSpec.ofChange unpacksWrong)

/-- 'thresholdkeep.Honest': WHATEVER THE INPUT: true; the input reads as it did. -/
def honestSpec : ChangeSpec := { name := "honest", fn := fun _ => fun
  | [d1, d2, d3, d4, d5, d6] => { results := [.lit (.bool true)], args := [d1, d2, d3, d4, d5, d6] }
  | _ => none }
def honestRow : OpenClaim := { program := "ytpfpokjaeffbjaa", sum := "3bc39302655de6af0d7870e57b5b506ad6d67981d2509a2f1cf81ba6aa7d5250", func := "threshold/thresholdkeep.Honest", spec := "honest", inPlace := ["sync/atomic.LoadUint32", "(*internal/sync.Mutex).Lock", "internal/race.Disable", "sync/atomic.CompareAndSwapInt32", "internal/race.Enable", "internal/race.Acquire", "(*internal/sync.Mutex).lockSlow", "internal/sync.runtime_canSpin", "internal/sync.runtime_doSpin", "internal/sync.throw", "internal/sync.runtime_nanotime", "internal/sync.runtime_SemacquireMutex", "sync/atomic.AddInt32", "(*internal/sync.Mutex).Unlock", "internal/race.ReleaseMerge", "(*internal/sync.Mutex).unlockSlow", "internal/sync.fatal", "internal/sync.runtime_Semrelease", "sync/atomic.StoreUint32", "(*sync.WaitGroup).Add", "internal/synctest.IsInBubble", "internal/synctest.Associate[sync.WaitGroup]", "sync.fatal", "sync/atomic.OrUint64", "sync/atomic.AddUint64", "internal/race.Read", "sync/atomic.LoadUint64", "sync/atomic.StoreUint64", "internal/synctest.Disassociate[sync.WaitGroup]", "sync.runtime_Semrelease", "(*sync.WaitGroup).Done", "(*sync.WaitGroup).Wait", "internal/synctest.IsAssociated[sync.WaitGroup]", "sync/atomic.CompareAndSwapUint64", "internal/race.Write", "sync.runtime_SemacquireWaitGroup"], unfollowed := true, recurses := true, plainKeys := false, leaving := true, apart := false, calm := true, outside := [.timePasses] }
def HonestSaid : Prop := honestRow.holds Try.pinned (OpenSpec.ofChange honestSpec)

/-- ITS FALSE NEIGHBOUR: 'it returns false'. Refute it at one input. -/
def honestWrong : ChangeSpec := { name := "honest", fn := fun _ => fun
  | [d1, d2, d3, d4, d5, d6] => { results := [.lit (.bool false)], args := [d1, d2, d3, d4, d5, d6] }
  | _ => none }
def HonestWrongFalsely : Prop := honestRow.holds Try.pinned (OpenSpec.ofChange honestWrong)

/-- 'thresholdlaw.Verifies': WHATEVER THE INPUT: true; the input reads as it did. -/
def verifiesSpec : ChangeSpec := { name := "verifies", fn := fun _ => fun
  | [d1, d2, d3] => { results := [.lit (.bool true)], args := [d1, d2, d3] }
  | _ => none }
def verifiesRow : OpenClaim := { program := "ytpfpokjaeffbjaa", sum := "3bc39302655de6af0d7870e57b5b506ad6d67981d2509a2f1cf81ba6aa7d5250", func := "threshold/thresholdlaw.Verifies", spec := "verifies", unfollowed := true, recurses := true, plainKeys := false, leaving := true, apart := false }
def VerifiesSaid : Prop := verifiesRow.holds Try.pinned (OpenSpec.ofChange verifiesSpec)

/-- ITS FALSE NEIGHBOUR: 'it returns false'. Refute it at one input. -/
def verifiesWrong : ChangeSpec := { name := "verifies", fn := fun _ => fun
  | [d1, d2, d3] => { results := [.lit (.bool false)], args := [d1, d2, d3] }
  | _ => none }
def VerifiesWrongFalsely : Prop := verifiesRow.holds Try.pinned (OpenSpec.ofChange verifiesWrong)

/-- 'thresholdkeep.Known': WHATEVER THE INPUT: true; the input reads as it did. -/
def knownSpec : ChangeSpec := { name := "known", fn := fun _ => fun
  | [] => { results := [.lit (.bool true)], args := [] }
  | _ => none }
def knownRow : OpenClaim := { program := "ytpfpokjaeffbjaa", sum := "3bc39302655de6af0d7870e57b5b506ad6d67981d2509a2f1cf81ba6aa7d5250", func := "threshold/thresholdkeep.Known", spec := "known", inPlace := ["sync/atomic.LoadUint32", "(*internal/sync.Mutex).Lock", "internal/race.Disable", "sync/atomic.CompareAndSwapInt32", "internal/race.Enable", "internal/race.Acquire", "(*internal/sync.Mutex).lockSlow", "internal/sync.runtime_canSpin", "internal/sync.runtime_doSpin", "internal/sync.throw", "internal/sync.runtime_nanotime", "internal/sync.runtime_SemacquireMutex", "sync/atomic.AddInt32", "(*internal/sync.Mutex).Unlock", "internal/race.ReleaseMerge", "(*internal/sync.Mutex).unlockSlow", "internal/sync.fatal", "internal/sync.runtime_Semrelease", "sync/atomic.StoreUint32", "(*sync.WaitGroup).Add", "internal/synctest.IsInBubble", "internal/synctest.Associate[sync.WaitGroup]", "sync.fatal", "sync/atomic.OrUint64", "sync/atomic.AddUint64", "internal/race.Read", "sync/atomic.LoadUint64", "sync/atomic.StoreUint64", "internal/synctest.Disassociate[sync.WaitGroup]", "sync.runtime_Semrelease", "(*sync.WaitGroup).Done", "(*sync.WaitGroup).Wait", "internal/synctest.IsAssociated[sync.WaitGroup]", "sync/atomic.CompareAndSwapUint64", "internal/race.Write", "sync.runtime_SemacquireWaitGroup"], unfollowed := true, recurses := true, plainKeys := false, leaving := true, apart := false, calm := true, outside := [.timePasses] }
def KnownSaid : Prop := knownRow.holds Try.pinned (OpenSpec.ofChange knownSpec)

/-- ITS FALSE NEIGHBOUR: 'it returns false'. Refute it at one input. -/
def knownWrong : ChangeSpec := { name := "known", fn := fun _ => fun
  | [] => { results := [.lit (.bool false)], args := [] }
  | _ => none }
def KnownWrongFalsely : Prop := knownRow.holds Try.pinned (OpenSpec.ofChange knownWrong)

/-- 'thresholdlaw.Combines': WHATEVER THE INPUT: true; the input reads as it did. -/
def combinesSpec : ChangeSpec := { name := "combines", fn := fun _ => fun
  | [d1, d2] => { results := [.lit (.bool true)], args := [d1, d2] }
  | _ => none }
def combinesRow : OpenClaim := { program := "ytpfpokjaeffbjaa", sum := "3bc39302655de6af0d7870e57b5b506ad6d67981d2509a2f1cf81ba6aa7d5250", func := "threshold/thresholdlaw.Combines", spec := "combines", unfollowed := true, recurses := true, plainKeys := false, leaving := true, apart := false }
def CombinesSaid : Prop := combinesRow.holds Try.pinned (OpenSpec.ofChange combinesSpec)

/-- ITS FALSE NEIGHBOUR: 'it returns false'. Refute it at one input. -/
def combinesWrong : ChangeSpec := { name := "combines", fn := fun _ => fun
  | [d1, d2] => { results := [.lit (.bool false)], args := [d1, d2] }
  | _ => none }
def CombinesWrongFalsely : Prop := combinesRow.holds Try.pinned (OpenSpec.ofChange combinesWrong)

/-- 'thresholdlaw.Checks': WHATEVER THE INPUT: true; the input reads as it did. -/
def checksSpec : ChangeSpec := { name := "checks", fn := fun _ => fun
  | [d1, d2, d3] => { results := [.lit (.bool true)], args := [d1, d2, d3] }
  | _ => none }
def checksRow : OpenClaim := { program := "ytpfpokjaeffbjaa", sum := "3bc39302655de6af0d7870e57b5b506ad6d67981d2509a2f1cf81ba6aa7d5250", func := "threshold/thresholdlaw.Checks", spec := "checks", inPlace := ["sync/atomic.LoadUint32", "(*internal/sync.Mutex).Lock", "internal/race.Disable", "sync/atomic.CompareAndSwapInt32", "internal/race.Enable", "internal/race.Acquire", "(*internal/sync.Mutex).lockSlow", "internal/sync.runtime_canSpin", "internal/sync.runtime_doSpin", "internal/sync.throw", "internal/sync.runtime_nanotime", "internal/sync.runtime_SemacquireMutex", "sync/atomic.AddInt32", "(*internal/sync.Mutex).Unlock", "internal/race.ReleaseMerge", "(*internal/sync.Mutex).unlockSlow", "internal/sync.fatal", "internal/sync.runtime_Semrelease", "sync/atomic.StoreUint32"], unfollowed := true, recurses := true, plainKeys := false, leaving := true, apart := false, calm := true, outside := [.timePasses] }
def ChecksSaid : Prop := checksRow.holds Try.pinned (OpenSpec.ofChange checksSpec)

/-- ITS FALSE NEIGHBOUR: 'it returns false'. Refute it at one input. -/
def checksWrong : ChangeSpec := { name := "checks", fn := fun _ => fun
  | [d1, d2, d3] => { results := [.lit (.bool false)], args := [d1, d2, d3] }
  | _ => none }
def ChecksWrongFalsely : Prop := checksRow.holds Try.pinned (OpenSpec.ofChange checksWrong)

/-- 'thresholdkeep.Recombined': WHATEVER THE INPUT: true; the input reads as it did. -/
def recombinedSpec : ChangeSpec := { name := "recombined", fn := fun _ => fun
  | [d1, d2, d3, d4, d5] => { results := [.lit (.bool true)], args := [d1, d2, d3, d4, d5] }
  | _ => none }
def recombinedRow : OpenClaim := { program := "ytpfpokjaeffbjaa", sum := "3bc39302655de6af0d7870e57b5b506ad6d67981d2509a2f1cf81ba6aa7d5250", func := "threshold/thresholdkeep.Recombined", spec := "recombined", inPlace := ["sync/atomic.LoadUint32", "(*internal/sync.Mutex).Lock", "internal/race.Disable", "sync/atomic.CompareAndSwapInt32", "internal/race.Enable", "internal/race.Acquire", "(*internal/sync.Mutex).lockSlow", "internal/sync.runtime_canSpin", "internal/sync.runtime_doSpin", "internal/sync.throw", "internal/sync.runtime_nanotime", "internal/sync.runtime_SemacquireMutex", "sync/atomic.AddInt32", "(*internal/sync.Mutex).Unlock", "internal/race.ReleaseMerge", "(*internal/sync.Mutex).unlockSlow", "internal/sync.fatal", "internal/sync.runtime_Semrelease", "sync/atomic.StoreUint32"], unfollowed := true, recurses := true, plainKeys := false, leaving := true, apart := false, calm := true, outside := [.timePasses] }
def RecombinedSaid : Prop := recombinedRow.holds Try.pinned (OpenSpec.ofChange recombinedSpec)

/-- ITS FALSE NEIGHBOUR: 'it returns false'. Refute it at one input. -/
def recombinedWrong : ChangeSpec := { name := "recombined", fn := fun _ => fun
  | [d1, d2, d3, d4, d5] => { results := [.lit (.bool false)], args := [d1, d2, d3, d4, d5] }
  | _ => none }
def RecombinedWrongFalsely : Prop := recombinedRow.holds Try.pinned (OpenSpec.ofChange recombinedWrong)

/-- 'thresholdlaw.Signers': WHATEVER THE INPUT: true; the input reads as it did. -/
def signersSpec : ChangeSpec := { name := "signers", fn := fun _ => fun
  | [d] => { results := [.lit (.bool true)], args := [d] }
  | _ => none }
def signersRow : OpenClaim := { program := "ytpfpokjaeffbjaa", sum := "3bc39302655de6af0d7870e57b5b506ad6d67981d2509a2f1cf81ba6aa7d5250", func := "threshold/thresholdlaw.Signers", spec := "signers", inPlace := ["sync/atomic.LoadUint32", "(*internal/sync.Mutex).Lock", "internal/race.Disable", "sync/atomic.CompareAndSwapInt32", "internal/race.Enable", "internal/race.Acquire", "(*internal/sync.Mutex).lockSlow", "internal/sync.runtime_canSpin", "internal/sync.runtime_doSpin", "internal/sync.throw", "internal/sync.runtime_nanotime", "internal/sync.runtime_SemacquireMutex", "sync/atomic.AddInt32", "(*internal/sync.Mutex).Unlock", "internal/race.ReleaseMerge", "(*internal/sync.Mutex).unlockSlow", "internal/sync.fatal", "internal/sync.runtime_Semrelease", "sync/atomic.StoreUint32"], unfollowed := true, recurses := true, plainKeys := false, leaving := true, apart := false, calm := true, outside := [.timePasses] }
def SignersSaid : Prop := signersRow.holds Try.pinned (OpenSpec.ofChange signersSpec)

/-- ITS FALSE NEIGHBOUR: 'it returns false'. Refute it at one input. -/
def signersWrong : ChangeSpec := { name := "signers", fn := fun _ => fun
  | [d] => { results := [.lit (.bool false)], args := [d] }
  | _ => none }
def SignersWrongFalsely : Prop := signersRow.holds Try.pinned (OpenSpec.ofChange signersWrong)

/-- 'thresholdlaw.Commits': WHATEVER THE INPUT: true; the input reads as it did. -/
def commitsSpec : ChangeSpec := { name := "commits", fn := fun _ => fun
  | [d] => { results := [.lit (.bool true)], args := [d] }
  | _ => none }
def commitsRow : OpenClaim := { program := "ytpfpokjaeffbjaa", sum := "3bc39302655de6af0d7870e57b5b506ad6d67981d2509a2f1cf81ba6aa7d5250", func := "threshold/thresholdlaw.Commits", spec := "commits", inPlace := ["sync/atomic.LoadUint32", "(*internal/sync.Mutex).Lock", "internal/race.Disable", "sync/atomic.CompareAndSwapInt32", "internal/race.Enable", "internal/race.Acquire", "(*internal/sync.Mutex).lockSlow", "internal/sync.runtime_canSpin", "internal/sync.runtime_doSpin", "internal/sync.throw", "internal/sync.runtime_nanotime", "internal/sync.runtime_SemacquireMutex", "sync/atomic.AddInt32", "(*internal/sync.Mutex).Unlock", "internal/race.ReleaseMerge", "(*internal/sync.Mutex).unlockSlow", "internal/sync.fatal", "internal/sync.runtime_Semrelease", "sync/atomic.StoreUint32"], unfollowed := true, recurses := true, plainKeys := false, leaving := true, apart := false, calm := true, outside := [.timePasses] }
def CommitsSaid : Prop := commitsRow.holds Try.pinned (OpenSpec.ofChange commitsSpec)

/-- ITS FALSE NEIGHBOUR: 'it returns false'. Refute it at one input. -/
def commitsWrong : ChangeSpec := { name := "commits", fn := fun _ => fun
  | [d] => { results := [.lit (.bool false)], args := [d] }
  | _ => none }
def CommitsWrongFalsely : Prop := commitsRow.holds Try.pinned (OpenSpec.ofChange commitsWrong)

/- THE SECOND FORM. 'bulk': how many values and letters a reading holds, each counted each time it is reached (what is shared counts as often as it is met; a slice's spare places count too). A statement '..UptoSaid' is the law's where the arguments, and the package variables that the reading takes, are together of bulk at most 1048576: NARROWER than '..Said'. Prove '..Said' where nothing that the law and all that it calls make is longer than what came in: it says more and counts as full. Else prove '..UptoSaid'. A law counts once. -/
mutual
def uptoBulk {H : Type} : DataW H → Nat
  | .lit (.string bytes) => bytes.length + 1
  | .lit _ => 1
  | .nil => 1
  | .ptr d => uptoBulk d + 1
  | .slice elems spare => uptoBulkAll elems + uptoBulkAll spare + 1
  | .agg parts => uptoBulkAll parts + 1
  | .iface _ d => uptoBulk d + 1
  | .map entries => uptoBulkEntries entries + 1
  | .held _ => 1
def uptoBulkAll {H : Type} : List (DataW H) → Nat
  | [] => 0
  | d :: r => uptoBulk d + uptoBulkAll r
def uptoBulkEntries {H : Type} : List (Lit × DataW H) → Nat
  | [] => 0
  | x :: r => uptoBulkEntry x + uptoBulkEntries r
def uptoBulkEntry {H : Type} : Lit × DataW H → Nat
  | (.string bytes, d) => bytes.length + uptoBulk d + 1
  | (_, d) => uptoBulk d + 1
 end
def uptoSmall : (H : Type) → List (DataW H) → Bool := fun _ ds => decide (uptoBulkAll ds ≤ 1048576)
def OpenSpec.upto (s : _root_.Go.ChangeSpec) : _root_.Go.OpenSpec := { _root_.Go.OpenSpec.ofChange s with cond := some uptoSmall }

/-- 'thresholdlaw.Names', WHERE WHAT IT READS IS OF BULK AT MOST 1048576: true; the input reads as it did. -/
def namesUptoRow : OpenClaim := { program := "ytpfpokjaeffbjaa", sum := "3bc39302655de6af0d7870e57b5b506ad6d67981d2509a2f1cf81ba6aa7d5250", func := "threshold/thresholdlaw.Names", spec := "names", plainKeys := false, apart := false, narrowed := true }
def NamesUptoSaid : Prop := namesUptoRow.holds Try.pinned (OpenSpec.upto namesSpec)

/-- 'thresholdlaw.Packs', WHERE WHAT IT READS IS OF BULK AT MOST 1048576: true; the input reads as it did. -/
def packsUptoRow : OpenClaim := { program := "ytpfpokjaeffbjaa", sum := "3bc39302655de6af0d7870e57b5b506ad6d67981d2509a2f1cf81ba6aa7d5250", func := "threshold/thresholdlaw.Packs", spec := "packs", plainKeys := false, apart := false, narrowed := true }
def PacksUptoSaid : Prop := packsUptoRow.holds Try.pinned (OpenSpec.upto packsSpec)

/-- 'thresholdlaw.Deals', WHERE WHAT IT READS IS OF BULK AT MOST 1048576: true; the input reads as it did. -/
def dealsUptoRow : OpenClaim := { program := "ytpfpokjaeffbjaa", sum := "3bc39302655de6af0d7870e57b5b506ad6d67981d2509a2f1cf81ba6aa7d5250", func := "threshold/thresholdlaw.Deals", spec := "deals", recurses := true, plainKeys := false, apart := false, narrowed := true }
def DealsUptoSaid : Prop := dealsUptoRow.holds Try.pinned (OpenSpec.upto dealsSpec)

/-- 'thresholdlaw.Unpacks', WHERE WHAT IT READS IS OF BULK AT MOST 1048576: true; the input reads as it did. -/
def unpacksUptoRow : OpenClaim := { program := "ytpfpokjaeffbjaa", sum := "3bc39302655de6af0d7870e57b5b506ad6d67981d2509a2f1cf81ba6aa7d5250", func := "threshold/thresholdlaw.Unpacks", spec := "unpacks", recurses := true, plainKeys := false, apart := false, narrowed := true }
def UnpacksUptoSaid : Prop := unpacksUptoRow.holds Try.pinned (OpenSpec.upto unpacksSpec)

/-- 'thresholdkeep.Honest', WHERE WHAT IT READS IS OF BULK AT MOST 1048576: true; the input reads as it did. -/
def honestUptoRow : OpenClaim := { program := "ytpfpokjaeffbjaa", sum := "3bc39302655de6af0d7870e57b5b506ad6d67981d2509a2f1cf81ba6aa7d5250", func := "threshold/thresholdkeep.Honest", spec := "honest", inPlace := ["sync/atomic.LoadUint32", "(*internal/sync.Mutex).Lock", "internal/race.Disable", "sync/atomic.CompareAndSwapInt32", "internal/race.Enable", "internal/race.Acquire", "(*internal/sync.Mutex).lockSlow", "internal/sync.runtime_canSpin", "internal/sync.runtime_doSpin", "internal/sync.throw", "internal/sync.runtime_nanotime", "internal/sync.runtime_SemacquireMutex", "sync/atomic.AddInt32", "(*internal/sync.Mutex).Unlock", "internal/race.ReleaseMerge", "(*internal/sync.Mutex).unlockSlow", "internal/sync.fatal", "internal/sync.runtime_Semrelease", "sync/atomic.StoreUint32", "(*sync.WaitGroup).Add", "internal/synctest.IsInBubble", "internal/synctest.Associate[sync.WaitGroup]", "sync.fatal", "sync/atomic.OrUint64", "sync/atomic.AddUint64", "internal/race.Read", "sync/atomic.LoadUint64", "sync/atomic.StoreUint64", "internal/synctest.Disassociate[sync.WaitGroup]", "sync.runtime_Semrelease", "(*sync.WaitGroup).Done", "(*sync.WaitGroup).Wait", "internal/synctest.IsAssociated[sync.WaitGroup]", "sync/atomic.CompareAndSwapUint64", "internal/race.Write", "sync.runtime_SemacquireWaitGroup"], unfollowed := true, recurses := true, plainKeys := false, leaving := true, apart := false, calm := true, outside := [.timePasses], narrowed := true }
def HonestUptoSaid : Prop := honestUptoRow.holds Try.pinned (OpenSpec.upto honestSpec)

/-- 'thresholdlaw.Verifies', WHERE WHAT IT READS IS OF BULK AT MOST 1048576: true; the input reads as it did. -/
def verifiesUptoRow : OpenClaim := { program := "ytpfpokjaeffbjaa", sum := "3bc39302655de6af0d7870e57b5b506ad6d67981d2509a2f1cf81ba6aa7d5250", func := "threshold/thresholdlaw.Verifies", spec := "verifies", unfollowed := true, recurses := true, plainKeys := false, leaving := true, apart := false, narrowed := true }
def VerifiesUptoSaid : Prop := verifiesUptoRow.holds Try.pinned (OpenSpec.upto verifiesSpec)

/-- 'thresholdkeep.Known', WHERE WHAT IT READS IS OF BULK AT MOST 1048576: true; the input reads as it did. -/
def knownUptoRow : OpenClaim := { program := "ytpfpokjaeffbjaa", sum := "3bc39302655de6af0d7870e57b5b506ad6d67981d2509a2f1cf81ba6aa7d5250", func := "threshold/thresholdkeep.Known", spec := "known", inPlace := ["sync/atomic.LoadUint32", "(*internal/sync.Mutex).Lock", "internal/race.Disable", "sync/atomic.CompareAndSwapInt32", "internal/race.Enable", "internal/race.Acquire", "(*internal/sync.Mutex).lockSlow", "internal/sync.runtime_canSpin", "internal/sync.runtime_doSpin", "internal/sync.throw", "internal/sync.runtime_nanotime", "internal/sync.runtime_SemacquireMutex", "sync/atomic.AddInt32", "(*internal/sync.Mutex).Unlock", "internal/race.ReleaseMerge", "(*internal/sync.Mutex).unlockSlow", "internal/sync.fatal", "internal/sync.runtime_Semrelease", "sync/atomic.StoreUint32", "(*sync.WaitGroup).Add", "internal/synctest.IsInBubble", "internal/synctest.Associate[sync.WaitGroup]", "sync.fatal", "sync/atomic.OrUint64", "sync/atomic.AddUint64", "internal/race.Read", "sync/atomic.LoadUint64", "sync/atomic.StoreUint64", "internal/synctest.Disassociate[sync.WaitGroup]", "sync.runtime_Semrelease", "(*sync.WaitGroup).Done", "(*sync.WaitGroup).Wait", "internal/synctest.IsAssociated[sync.WaitGroup]", "sync/atomic.CompareAndSwapUint64", "internal/race.Write", "sync.runtime_SemacquireWaitGroup"], unfollowed := true, recurses := true, plainKeys := false, leaving := true, apart := false, calm := true, outside := [.timePasses], narrowed := true }
def KnownUptoSaid : Prop := knownUptoRow.holds Try.pinned (OpenSpec.upto knownSpec)

/-- 'thresholdlaw.Combines', WHERE WHAT IT READS IS OF BULK AT MOST 1048576: true; the input reads as it did. -/
def combinesUptoRow : OpenClaim := { program := "ytpfpokjaeffbjaa", sum := "3bc39302655de6af0d7870e57b5b506ad6d67981d2509a2f1cf81ba6aa7d5250", func := "threshold/thresholdlaw.Combines", spec := "combines", unfollowed := true, recurses := true, plainKeys := false, leaving := true, apart := false, narrowed := true }
def CombinesUptoSaid : Prop := combinesUptoRow.holds Try.pinned (OpenSpec.upto combinesSpec)

/-- 'thresholdlaw.Checks', WHERE WHAT IT READS IS OF BULK AT MOST 1048576: true; the input reads as it did. -/
def checksUptoRow : OpenClaim := { program := "ytpfpokjaeffbjaa", sum := "3bc39302655de6af0d7870e57b5b506ad6d67981d2509a2f1cf81ba6aa7d5250", func := "threshold/thresholdlaw.Checks", spec := "checks", inPlace := ["sync/atomic.LoadUint32", "(*internal/sync.Mutex).Lock", "internal/race.Disable", "sync/atomic.CompareAndSwapInt32", "internal/race.Enable", "internal/race.Acquire", "(*internal/sync.Mutex).lockSlow", "internal/sync.runtime_canSpin", "internal/sync.runtime_doSpin", "internal/sync.throw", "internal/sync.runtime_nanotime", "internal/sync.runtime_SemacquireMutex", "sync/atomic.AddInt32", "(*internal/sync.Mutex).Unlock", "internal/race.ReleaseMerge", "(*internal/sync.Mutex).unlockSlow", "internal/sync.fatal", "internal/sync.runtime_Semrelease", "sync/atomic.StoreUint32"], unfollowed := true, recurses := true, plainKeys := false, leaving := true, apart := false, calm := true, outside := [.timePasses], narrowed := true }
def ChecksUptoSaid : Prop := checksUptoRow.holds Try.pinned (OpenSpec.upto checksSpec)

/-- 'thresholdkeep.Recombined', WHERE WHAT IT READS IS OF BULK AT MOST 1048576: true; the input reads as it did. -/
def recombinedUptoRow : OpenClaim := { program := "ytpfpokjaeffbjaa", sum := "3bc39302655de6af0d7870e57b5b506ad6d67981d2509a2f1cf81ba6aa7d5250", func := "threshold/thresholdkeep.Recombined", spec := "recombined", inPlace := ["sync/atomic.LoadUint32", "(*internal/sync.Mutex).Lock", "internal/race.Disable", "sync/atomic.CompareAndSwapInt32", "internal/race.Enable", "internal/race.Acquire", "(*internal/sync.Mutex).lockSlow", "internal/sync.runtime_canSpin", "internal/sync.runtime_doSpin", "internal/sync.throw", "internal/sync.runtime_nanotime", "internal/sync.runtime_SemacquireMutex", "sync/atomic.AddInt32", "(*internal/sync.Mutex).Unlock", "internal/race.ReleaseMerge", "(*internal/sync.Mutex).unlockSlow", "internal/sync.fatal", "internal/sync.runtime_Semrelease", "sync/atomic.StoreUint32"], unfollowed := true, recurses := true, plainKeys := false, leaving := true, apart := false, calm := true, outside := [.timePasses], narrowed := true }
def RecombinedUptoSaid : Prop := recombinedUptoRow.holds Try.pinned (OpenSpec.upto recombinedSpec)

/-- 'thresholdlaw.Signers', WHERE WHAT IT READS IS OF BULK AT MOST 1048576: true; the input reads as it did. -/
def signersUptoRow : OpenClaim := { program := "ytpfpokjaeffbjaa", sum := "3bc39302655de6af0d7870e57b5b506ad6d67981d2509a2f1cf81ba6aa7d5250", func := "threshold/thresholdlaw.Signers", spec := "signers", inPlace := ["sync/atomic.LoadUint32", "(*internal/sync.Mutex).Lock", "internal/race.Disable", "sync/atomic.CompareAndSwapInt32", "internal/race.Enable", "internal/race.Acquire", "(*internal/sync.Mutex).lockSlow", "internal/sync.runtime_canSpin", "internal/sync.runtime_doSpin", "internal/sync.throw", "internal/sync.runtime_nanotime", "internal/sync.runtime_SemacquireMutex", "sync/atomic.AddInt32", "(*internal/sync.Mutex).Unlock", "internal/race.ReleaseMerge", "(*internal/sync.Mutex).unlockSlow", "internal/sync.fatal", "internal/sync.runtime_Semrelease", "sync/atomic.StoreUint32"], unfollowed := true, recurses := true, plainKeys := false, leaving := true, apart := false, calm := true, outside := [.timePasses], narrowed := true }
def SignersUptoSaid : Prop := signersUptoRow.holds Try.pinned (OpenSpec.upto signersSpec)

/-- 'thresholdlaw.Commits', WHERE WHAT IT READS IS OF BULK AT MOST 1048576: true; the input reads as it did. -/
def commitsUptoRow : OpenClaim := { program := "ytpfpokjaeffbjaa", sum := "3bc39302655de6af0d7870e57b5b506ad6d67981d2509a2f1cf81ba6aa7d5250", func := "threshold/thresholdlaw.Commits", spec := "commits", inPlace := ["sync/atomic.LoadUint32", "(*internal/sync.Mutex).Lock", "internal/race.Disable", "sync/atomic.CompareAndSwapInt32", "internal/race.Enable", "internal/race.Acquire", "(*internal/sync.Mutex).lockSlow", "internal/sync.runtime_canSpin", "internal/sync.runtime_doSpin", "internal/sync.throw", "internal/sync.runtime_nanotime", "internal/sync.runtime_SemacquireMutex", "sync/atomic.AddInt32", "(*internal/sync.Mutex).Unlock", "internal/race.ReleaseMerge", "(*internal/sync.Mutex).unlockSlow", "internal/sync.fatal", "internal/sync.runtime_Semrelease", "sync/atomic.StoreUint32"], unfollowed := true, recurses := true, plainKeys := false, leaving := true, apart := false, calm := true, outside := [.timePasses], narrowed := true }
def CommitsUptoSaid : Prop := commitsUptoRow.holds Try.pinned (OpenSpec.upto commitsSpec)

end Rows
end Go.Proofs.Ytpfpokjaeffbjaa
