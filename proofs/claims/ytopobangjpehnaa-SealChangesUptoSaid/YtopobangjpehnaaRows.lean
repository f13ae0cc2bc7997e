/-
  No cell of these rows narrows 'for every input' (looked for: loops, veiled, ifaces, maps, wideKeys, modest, calm, conditions, laid).
  DERIVED. THE GIVEN ROWS OF THIS SEAT. 17 by the template 'for every input the law returns true; each argument reads behind the call as it read before'; 0 by the template 'total and deterministic' (their statements: YtopobangjpehnaaTotals.lean).
  GIVEN WITH THE SEED: the statements are not yours to turn. If you find one false, say at which input.
  Laid BY PROGRAM, IN A SANDBOX (cutbox-rows.mjs): the forced cells as the released guide's own fill.sh prints them over the translation 2af4b812f826b463… (all of the seat's roots in one cut). By AI agents, Wed Nov 11 2026. No macro, syntax, notation, axiom, sorry.
-/
import Derived.Test.YtopobangjpehnaaChecked
import GoSem.Claim
import GoSem.ClaimJoined
import GoSem.ClaimMapViews
import Derived.JoinedTies
import Derived.KernelRfl
namespace Go.Proofs.Ytopobangjpehnaa
/- THE CELL 'sum', in the pinned program and in every row, IS THE sha256 OF THE DUMP (.gsa) THAT YtopobangjpehnaaProg.lean LOADS. Nothing in Lean hashes anything: it is a label: what it is worth is what the hold of that sum in a sandbox is worth. -/
noncomputable def Try.pinned : Pinned := { name := "ytopobangjpehnaa", sum := "2af4b812f826b463366c5e7590ebcf03d366fd4c52fb7c745f57fcd22a1008a2", checked := Try.checked }
namespace Rows
def none {H : Type} : Left H := { results := [], args := [] }

/-- 'turnstilelaw3.CipherTurned': WHATEVER THE INPUT: true; the input reads as it did. -/
def cipherTurnedSpec : ChangeSpec := { name := "cipherTurned", fn := fun _ => fun
  | [d1, d2, d3] => { results := [.lit (.bool true)], args := [d1, d2, d3] }
  | _ => none }
def cipherTurnedRow : OpenClaim := { program := "ytopobangjpehnaa", sum := "2af4b812f826b463366c5e7590ebcf03d366fd4c52fb7c745f57fcd22a1008a2", func := "turnstile/turnstilelaw3.CipherTurned", spec := "cipherTurned", unfollowed := true, recurses := true, apart := false }
def CipherTurnedSaid : Prop := cipherTurnedRow.holds Try.pinned (OpenSpec.ofChange cipherTurnedSpec)

/-- ITS FALSE NEIGHBOUR: 'it returns false'. Refute it at one input. -/
def cipherTurnedWrong : ChangeSpec := { name := "cipherTurned", fn := fun _ => fun
  | [d1, d2, d3] => { results := [.lit (.bool false)], args := [d1, d2, d3] }
  | _ => none }
def CipherTurnedWrongFalsely : Prop := cipherTurnedRow.holds Try.pinned (OpenSpec.ofChange cipherTurnedWrong)

/-- 'turnstilelaw4.SealPads': WHATEVER THE INPUT: true; the input reads as it did. -/
def sealPadsSpec : ChangeSpec := { name := "sealPads", fn := fun _ => fun
  | [d1, d2, d3] => { results := [.lit (.bool true)], args := [d1, d2, d3] }
  | _ => none }
def sealPadsRow : OpenClaim := { program := "ytopobangjpehnaa", sum := "2af4b812f826b463366c5e7590ebcf03d366fd4c52fb7c745f57fcd22a1008a2", func := "turnstile/turnstilelaw4.SealPads", spec := "sealPads", inPlace := ["internal/abi.NoEscape", "internal/bytealg.MakeNoZero"], apart := false }
def SealPadsSaid : Prop := sealPadsRow.holds Try.pinned (OpenSpec.ofChange sealPadsSpec)

/-- ITS FALSE NEIGHBOUR: 'it returns false'. Refute it at one input. -/
def sealPadsWrong : ChangeSpec := { name := "sealPads", fn := fun _ => fun
  | [d1, d2, d3] => { results := [.lit (.bool false)], args := [d1, d2, d3] }
  | _ => none }
def SealPadsWrongFalsely : Prop := sealPadsRow.holds Try.pinned (OpenSpec.ofChange sealPadsWrong)

/-- 'turnstilelaw3.CipherTurns': WHATEVER THE INPUT: true; the input reads as it did. -/
def cipherTurnsSpec : ChangeSpec := { name := "cipherTurns", fn := fun _ => fun
  | [d1, d2] => { results := [.lit (.bool true)], args := [d1, d2] }
  | _ => none }
def cipherTurnsRow : OpenClaim := { program := "ytopobangjpehnaa", sum := "2af4b812f826b463366c5e7590ebcf03d366fd4c52fb7c745f57fcd22a1008a2", func := "turnstile/turnstilelaw3.CipherTurns", spec := "cipherTurns", unfollowed := true, recurses := true, apart := false }
def CipherTurnsSaid : Prop := cipherTurnsRow.holds Try.pinned (OpenSpec.ofChange cipherTurnsSpec)

/-- ITS FALSE NEIGHBOUR: 'it returns false'. Refute it at one input. -/
def cipherTurnsWrong : ChangeSpec := { name := "cipherTurns", fn := fun _ => fun
  | [d1, d2] => { results := [.lit (.bool false)], args := [d1, d2] }
  | _ => none }
def CipherTurnsWrongFalsely : Prop := cipherTurnsRow.holds Try.pinned (OpenSpec.ofChange cipherTurnsWrong)

/-- 'turnstilelaw3.CipherXors': WHATEVER THE INPUT: true; the input reads as it did. -/
def cipherXorsSpec : ChangeSpec := { name := "cipherXors", fn := fun _ => fun
  | [d1, d2] => { results := [.lit (.bool true)], args := [d1, d2] }
  | _ => none }
def cipherXorsRow : OpenClaim := { program := "ytopobangjpehnaa", sum := "2af4b812f826b463366c5e7590ebcf03d366fd4c52fb7c745f57fcd22a1008a2", func := "turnstile/turnstilelaw3.CipherXors", spec := "cipherXors", unfollowed := true, recurses := true, apart := false }
def CipherXorsSaid : Prop := cipherXorsRow.holds Try.pinned (OpenSpec.ofChange cipherXorsSpec)

/-- ITS FALSE NEIGHBOUR: 'it returns false'. Refute it at one input. -/
def cipherXorsWrong : ChangeSpec := { name := "cipherXors", fn := fun _ => fun
  | [d1, d2] => { results := [.lit (.bool false)], args := [d1, d2] }
  | _ => none }
def CipherXorsWrongFalsely : Prop := cipherXorsRow.holds Try.pinned (OpenSpec.ofChange cipherXorsWrong)

/-- 'turnstilelaw4.SealChanges': WHATEVER THE INPUT: true; the input reads as it did. -/
def sealChangesSpec : ChangeSpec := { name := "sealChanges", fn := fun _ => fun
  | [d1, d2, d3, d4, d5, d6] => { results := [.lit (.bool true)], args := [d1, d2, d3, d4, d5, d6] }
  | _ => none }
def sealChangesRow : OpenClaim := { program := "ytopobangjpehnaa", sum := "2af4b812f826b463366c5e7590ebcf03d366fd4c52fb7c745f57fcd22a1008a2", func := "turnstile/turnstilelaw4.SealChanges", spec := "sealChanges", inPlace := ["(*internal/sync.Mutex).Lock", "internal/race.Disable", "sync/atomic.CompareAndSwapInt32", "internal/race.Enable", "internal/race.Acquire", "(*internal/sync.Mutex).lockSlow", "internal/sync.runtime_canSpin", "internal/sync.runtime_doSpin", "internal/sync.throw", "internal/sync.runtime_nanotime", "internal/sync.runtime_SemacquireMutex", "sync/atomic.AddInt32", "(*internal/sync.Mutex).Unlock", "internal/race.ReleaseMerge", "(*internal/sync.Mutex).unlockSlow", "internal/sync.fatal", "internal/sync.runtime_Semrelease", "internal/abi.NoEscape", "internal/bytealg.MakeNoZero"], unfollowed := true, recurses := true, apart := false }
def SealChangesSaid : Prop := sealChangesRow.holds Try.pinned (OpenSpec.ofChange sealChangesSpec)

/-- ITS FALSE NEIGHBOUR: 'it returns false'. Refute it at one input. -/
def sealChangesWrong : ChangeSpec := { name := "sealChanges", fn := fun _ => fun
  | [d1, d2, d3, d4, d5, d6] => { results := [.lit (.bool false)], args := [d1, d2, d3, d4, d5, d6] }
  | _ => none }
def SealChangesWrongFalsely : Prop := sealChangesRow.holds Try.pinned (OpenSpec.ofChange sealChangesWrong)

/-- 'turnstilelaw3.CipherWeak': WHATEVER THE INPUT: true; the input reads as it did. -/
def cipherWeakSpec : ChangeSpec := { name := "cipherWeak", fn := fun _ => fun
  | [d1, d2, d3, d4, d5] => { results := [.lit (.bool true)], args := [d1, d2, d3, d4, d5] }
  | _ => none }
def cipherWeakRow : OpenClaim := { program := "ytopobangjpehnaa", sum := "2af4b812f826b463366c5e7590ebcf03d366fd4c52fb7c745f57fcd22a1008a2", func := "turnstile/turnstilelaw3.CipherWeak", spec := "cipherWeak", unfollowed := true, recurses := true, apart := false }
def CipherWeakSaid : Prop := cipherWeakRow.holds Try.pinned (OpenSpec.ofChange cipherWeakSpec)

/-- ITS FALSE NEIGHBOUR: 'it returns false'. Refute it at one input. -/
def cipherWeakWrong : ChangeSpec := { name := "cipherWeak", fn := fun _ => fun
  | [d1, d2, d3, d4, d5] => { results := [.lit (.bool false)], args := [d1, d2, d3, d4, d5] }
  | _ => none }
def CipherWeakWrongFalsely : Prop := cipherWeakRow.holds Try.pinned (OpenSpec.ofChange cipherWeakWrong)

/-- 'turnstilelaw3.CipherEach': WHATEVER THE INPUT: true; the input reads as it did. -/
def cipherEachSpec : ChangeSpec := { name := "cipherEach", fn := fun _ => fun
  | [d1, d2, d3, d4] => { results := [.lit (.bool true)], args := [d1, d2, d3, d4] }
  | _ => none }
def cipherEachRow : OpenClaim := { program := "ytopobangjpehnaa", sum := "2af4b812f826b463366c5e7590ebcf03d366fd4c52fb7c745f57fcd22a1008a2", func := "turnstile/turnstilelaw3.CipherEach", spec := "cipherEach", unfollowed := true, recurses := true, apart := false }
def CipherEachSaid : Prop := cipherEachRow.holds Try.pinned (OpenSpec.ofChange cipherEachSpec)

/-- ITS FALSE NEIGHBOUR: 'it returns false'. Refute it at one input. -/
def cipherEachWrong : ChangeSpec := { name := "cipherEach", fn := fun _ => fun
  | [d1, d2, d3, d4] => { results := [.lit (.bool false)], args := [d1, d2, d3, d4] }
  | _ => none }
def CipherEachWrongFalsely : Prop := cipherEachRow.holds Try.pinned (OpenSpec.ofChange cipherEachWrong)

/-- 'turnstilelaw3.CipherChains': WHATEVER THE INPUT: true; the input reads as it did. -/
def cipherChainsSpec : ChangeSpec := { name := "cipherChains", fn := fun _ => fun
  | [d1, d2, d3] => { results := [.lit (.bool true)], args := [d1, d2, d3] }
  | _ => none }
def cipherChainsRow : OpenClaim := { program := "ytopobangjpehnaa", sum := "2af4b812f826b463366c5e7590ebcf03d366fd4c52fb7c745f57fcd22a1008a2", func := "turnstile/turnstilelaw3.CipherChains", spec := "cipherChains", unfollowed := true, recurses := true, apart := false }
def CipherChainsSaid : Prop := cipherChainsRow.holds Try.pinned (OpenSpec.ofChange cipherChainsSpec)

/-- ITS FALSE NEIGHBOUR: 'it returns false'. Refute it at one input. -/
def cipherChainsWrong : ChangeSpec := { name := "cipherChains", fn := fun _ => fun
  | [d1, d2, d3] => { results := [.lit (.bool false)], args := [d1, d2, d3] }
  | _ => none }
def CipherChainsWrongFalsely : Prop := cipherChainsRow.holds Try.pinned (OpenSpec.ofChange cipherChainsWrong)

/-- 'turnstilelaw3.CipherKeys': WHATEVER THE INPUT: true; the input reads as it did. -/
def cipherKeysSpec : ChangeSpec := { name := "cipherKeys", fn := fun _ => fun
  | [d] => { results := [.lit (.bool true)], args := [d] }
  | _ => none }
def cipherKeysRow : OpenClaim := { program := "ytopobangjpehnaa", sum := "2af4b812f826b463366c5e7590ebcf03d366fd4c52fb7c745f57fcd22a1008a2", func := "turnstile/turnstilelaw3.CipherKeys", spec := "cipherKeys", unfollowed := true, recurses := true, apart := false }
def CipherKeysSaid : Prop := cipherKeysRow.holds Try.pinned (OpenSpec.ofChange cipherKeysSpec)

/-- ITS FALSE NEIGHBOUR: 'it returns false'. Refute it at one input. -/
def cipherKeysWrong : ChangeSpec := { name := "cipherKeys", fn := fun _ => fun
  | [d] => { results := [.lit (.bool false)], args := [d] }
  | _ => none }
def CipherKeysWrongFalsely : Prop := cipherKeysRow.holds Try.pinned (OpenSpec.ofChange cipherKeysWrong)

/-- 'turnstilelaw3.CipherApart': WHATEVER THE INPUT: true; the input reads as it did. -/
def cipherApartSpec : ChangeSpec := { name := "cipherApart", fn := fun _ => fun
  | [d1, d2, d3, d4] => { results := [.lit (.bool true)], args := [d1, d2, d3, d4] }
  | _ => none }
def cipherApartRow : OpenClaim := { program := "ytopobangjpehnaa", sum := "2af4b812f826b463366c5e7590ebcf03d366fd4c52fb7c745f57fcd22a1008a2", func := "turnstile/turnstilelaw3.CipherApart", spec := "cipherApart", unfollowed := true, recurses := true, apart := false }
def CipherApartSaid : Prop := cipherApartRow.holds Try.pinned (OpenSpec.ofChange cipherApartSpec)

/-- ITS FALSE NEIGHBOUR: 'it returns false'. Refute it at one input. -/
def cipherApartWrong : ChangeSpec := { name := "cipherApart", fn := fun _ => fun
  | [d1, d2, d3, d4] => { results := [.lit (.bool false)], args := [d1, d2, d3, d4] }
  | _ => none }
def CipherApartWrongFalsely : Prop := cipherApartRow.holds Try.pinned (OpenSpec.ofChange cipherApartWrong)

/-- 'turnstilelaw3.CipherBack': WHATEVER THE INPUT: true; the input reads as it did. -/
def cipherBackSpec : ChangeSpec := { name := "cipherBack", fn := fun _ => fun
  | [d1, d2, d3, d4] => { results := [.lit (.bool true)], args := [d1, d2, d3, d4] }
  | _ => none }
def cipherBackRow : OpenClaim := { program := "ytopobangjpehnaa", sum := "2af4b812f826b463366c5e7590ebcf03d366fd4c52fb7c745f57fcd22a1008a2", func := "turnstile/turnstilelaw3.CipherBack", spec := "cipherBack", unfollowed := true, recurses := true, apart := false }
def CipherBackSaid : Prop := cipherBackRow.holds Try.pinned (OpenSpec.ofChange cipherBackSpec)

/-- ITS FALSE NEIGHBOUR: 'it returns false'. Refute it at one input. -/
def cipherBackWrong : ChangeSpec := { name := "cipherBack", fn := fun _ => fun
  | [d1, d2, d3, d4] => { results := [.lit (.bool false)], args := [d1, d2, d3, d4] }
  | _ => none }
def CipherBackWrongFalsely : Prop := cipherBackRow.holds Try.pinned (OpenSpec.ofChange cipherBackWrong)

/-- 'turnstilelaw3.CipherParts': WHATEVER THE INPUT: true; the input reads as it did. -/
def cipherPartsSpec : ChangeSpec := { name := "cipherParts", fn := fun _ => fun
  | [d1, d2, d3, d4] => { results := [.lit (.bool true)], args := [d1, d2, d3, d4] }
  | _ => none }
def cipherPartsRow : OpenClaim := { program := "ytopobangjpehnaa", sum := "2af4b812f826b463366c5e7590ebcf03d366fd4c52fb7c745f57fcd22a1008a2", func := "turnstile/turnstilelaw3.CipherParts", spec := "cipherParts", unfollowed := true, recurses := true, apart := false }
def CipherPartsSaid : Prop := cipherPartsRow.holds Try.pinned (OpenSpec.ofChange cipherPartsSpec)

/-- ITS FALSE NEIGHBOUR: 'it returns false'. Refute it at one input. -/
def cipherPartsWrong : ChangeSpec := { name := "cipherParts", fn := fun _ => fun
  | [d1, d2, d3, d4] => { results := [.lit (.bool false)], args := [d1, d2, d3, d4] }
  | _ => none }
def CipherPartsWrongFalsely : Prop := cipherPartsRow.holds Try.pinned (OpenSpec.ofChange cipherPartsWrong)

/-- 'turnstilelaw4.SealTags': WHATEVER THE INPUT: true; the input reads as it did. -/
def sealTagsSpec : ChangeSpec := { name := "sealTags", fn := fun _ => fun
  | [d1, d2, d3, d4] => { results := [.lit (.bool true)], args := [d1, d2, d3, d4] }
  | _ => none }
def sealTagsRow : OpenClaim := { program := "ytopobangjpehnaa", sum := "2af4b812f826b463366c5e7590ebcf03d366fd4c52fb7c745f57fcd22a1008a2", func := "turnstile/turnstilelaw4.SealTags", spec := "sealTags", inPlace := ["internal/abi.NoEscape", "internal/bytealg.MakeNoZero"], unfollowed := true, recurses := true, apart := false }
def SealTagsSaid : Prop := sealTagsRow.holds Try.pinned (OpenSpec.ofChange sealTagsSpec)

/-- ITS FALSE NEIGHBOUR: 'it returns false'. Refute it at one input. -/
def sealTagsWrong : ChangeSpec := { name := "sealTags", fn := fun _ => fun
  | [d1, d2, d3, d4] => { results := [.lit (.bool false)], args := [d1, d2, d3, d4] }
  | _ => none }
def SealTagsWrongFalsely : Prop := sealTagsRow.holds Try.pinned (OpenSpec.ofChange sealTagsWrong)

/-- 'turnstilelaw4.SealFilled': WHATEVER THE INPUT: true; the input reads as it did. -/
def sealFilledSpec : ChangeSpec := { name := "sealFilled", fn := fun _ => fun
  | [d1, d2, d3, d4] => { results := [.lit (.bool true)], args := [d1, d2, d3, d4] }
  | _ => none }
def sealFilledRow : OpenClaim := { program := "ytopobangjpehnaa", sum := "2af4b812f826b463366c5e7590ebcf03d366fd4c52fb7c745f57fcd22a1008a2", func := "turnstile/turnstilelaw4.SealFilled", spec := "sealFilled", inPlace := ["internal/abi.NoEscape", "internal/bytealg.MakeNoZero"], unfollowed := true, recurses := true, apart := false }
def SealFilledSaid : Prop := sealFilledRow.holds Try.pinned (OpenSpec.ofChange sealFilledSpec)

/-- ITS FALSE NEIGHBOUR: 'it returns false'. Refute it at one input. -/
def sealFilledWrong : ChangeSpec := { name := "sealFilled", fn := fun _ => fun
  | [d1, d2, d3, d4] => { results := [.lit (.bool false)], args := [d1, d2, d3, d4] }
  | _ => none }
def SealFilledWrongFalsely : Prop := sealFilledRow.holds Try.pinned (OpenSpec.ofChange sealFilledWrong)

/-- 'turnstilelaw4.SealKeys': WHATEVER THE INPUT: true; the input reads as it did. -/
def sealKeysSpec : ChangeSpec := { name := "sealKeys", fn := fun _ => fun
  | [d1, d2, d3, d4] => { results := [.lit (.bool true)], args := [d1, d2, d3, d4] }
  | _ => none }
def sealKeysRow : OpenClaim := { program := "ytopobangjpehnaa", sum := "2af4b812f826b463366c5e7590ebcf03d366fd4c52fb7c745f57fcd22a1008a2", func := "turnstile/turnstilelaw4.SealKeys", spec := "sealKeys", inPlace := ["internal/abi.NoEscape", "internal/bytealg.MakeNoZero"], unfollowed := true, recurses := true, apart := false }
def SealKeysSaid : Prop := sealKeysRow.holds Try.pinned (OpenSpec.ofChange sealKeysSpec)

/-- ITS FALSE NEIGHBOUR: 'it returns false'. Refute it at one input. -/
def sealKeysWrong : ChangeSpec := { name := "sealKeys", fn := fun _ => fun
  | [d1, d2, d3, d4] => { results := [.lit (.bool false)], args := [d1, d2, d3, d4] }
  | _ => none }
def SealKeysWrongFalsely : Prop := sealKeysRow.holds Try.pinned (OpenSpec.ofChange sealKeysWrong)

/-- 'turnstilelaw4.SealSteps': WHATEVER THE INPUT: true; the input reads as it did. -/
def sealStepsSpec : ChangeSpec := { name := "sealSteps", fn := fun _ => fun
  | [d1, d2, d3, d4] => { results := [.lit (.bool true)], args := [d1, d2, d3, d4] }
  | _ => none }
def sealStepsRow : OpenClaim := { program := "ytopobangjpehnaa", sum := "2af4b812f826b463366c5e7590ebcf03d366fd4c52fb7c745f57fcd22a1008a2", func := "turnstile/turnstilelaw4.SealSteps", spec := "sealSteps", inPlace := ["internal/abi.NoEscape", "internal/bytealg.MakeNoZero"], unfollowed := true, recurses := true, apart := false }
def SealStepsSaid : Prop := sealStepsRow.holds Try.pinned (OpenSpec.ofChange sealStepsSpec)

/-- ITS FALSE NEIGHBOUR: 'it returns false'. Refute it at one input. -/
def sealStepsWrong : ChangeSpec := { name := "sealSteps", fn := fun _ => fun
  | [d1, d2, d3, d4] => { results := [.lit (.bool false)], args := [d1, d2, d3, d4] }
  | _ => none }
def SealStepsWrongFalsely : Prop := sealStepsRow.holds Try.pinned (OpenSpec.ofChange sealStepsWrong)

/-- 'turnstilelaw4.SealOwn': WHATEVER THE INPUT: true; the input reads as it did. -/
def sealOwnSpec : ChangeSpec := { name := "sealOwn", fn := fun _ => fun
  | [d1, d2, d3, d4, d5, d6] => { results := [.lit (.bool true)], args := [d1, d2, d3, d4, d5, d6] }
  | _ => none }
def sealOwnRow : OpenClaim := { program := "ytopobangjpehnaa", sum := "2af4b812f826b463366c5e7590ebcf03d366fd4c52fb7c745f57fcd22a1008a2", func := "turnstile/turnstilelaw4.SealOwn", spec := "sealOwn", inPlace := ["(*internal/sync.Mutex).Lock", "internal/race.Disable", "sync/atomic.CompareAndSwapInt32", "internal/race.Enable", "internal/race.Acquire", "(*internal/sync.Mutex).lockSlow", "internal/sync.runtime_canSpin", "internal/sync.runtime_doSpin", "internal/sync.throw", "internal/sync.runtime_nanotime", "internal/sync.runtime_SemacquireMutex", "sync/atomic.AddInt32", "(*internal/sync.Mutex).Unlock", "internal/race.ReleaseMerge", "(*internal/sync.Mutex).unlockSlow", "internal/sync.fatal", "internal/sync.runtime_Semrelease", "internal/abi.NoEscape", "internal/bytealg.MakeNoZero"], unfollowed := true, recurses := true, apart := false }
def SealOwnSaid : Prop := sealOwnRow.holds Try.pinned (OpenSpec.ofChange sealOwnSpec)

/-- ITS FALSE NEIGHBOUR: 'it returns false'. Refute it at one input. -/
def sealOwnWrong : ChangeSpec := { name := "sealOwn", fn := fun _ => fun
  | [d1, d2, d3, d4, d5, d6] => { results := [.lit (.bool false)], args := [d1, d2, d3, d4, d5, d6] }
  | _ => none }
def SealOwnWrongFalsely : Prop := sealOwnRow.holds Try.pinned (OpenSpec.ofChange sealOwnWrong)

/- THE SECOND FORM. 'bulk': how many values and letters a reading holds, each counted each time it is reached (what is shared counts as often as it is met; a slice's spare places count too). A statement '..UptoSaid' is the law's where the arguments, and the package variables that the reading takes, are together of bulk at most 1048576: NARROWER than '..Said'. Prove '..Said' where nothing that the law and all that it calls make is longer than what came in: it says more and counts as full. Else prove '..UptoSaid'. A law counts once. -/
mutual
def uptoBulk {H : Type} : DataW H → Nat
  | .lit (.string bytes) => bytes.length + 1
  | .lit _ => 1
  | .nil => 1
  | .ptr d => uptoBulk d + 1
  | .slice elems spare => uptoBulkAll elems + uptoBulkAll spare + 1
  | .agg parts => uptoBulkAll parts + 1
  | .iface _ d => uptoBulk d + 1
  | .map entries => uptoBulkEntries entries + 1
  | .held _ => 1
def uptoBulkAll {H : Type} : List (DataW H) → Nat
  | [] => 0
  | d :: r => uptoBulk d + uptoBulkAll r
def uptoBulkEntries {H : Type} : List (Lit × DataW H) → Nat
  | [] => 0
  | x :: r => uptoBulkEntry x + uptoBulkEntries r
def uptoBulkEntry {H : Type} : Lit × DataW H → Nat
  | (.string bytes, d) => bytes.length + uptoBulk d + 1
  | (_, d) => uptoBulk d + 1
 end
def uptoSmall : (H : Type) → List (DataW H) → Bool := fun _ ds => decide (uptoBulkAll ds ≤ 1048576)
def OpenSpec.upto (s : _root_.Go.ChangeSpec) : _root_.Go.OpenSpec := { _root_.Go.OpenSpec.ofChange s with cond := some uptoSmall }

/-- 'turnstilelaw3.CipherTurned', WHERE WHAT IT READS IS OF BULK AT MOST 1048576: true; the input reads as it did. -/
def cipherTurnedUptoRow : OpenClaim := { program := "ytopobangjpehnaa", sum := "2af4b812f826b463366c5e7590ebcf03d366fd4c52fb7c745f57fcd22a1008a2", func := "turnstile/turnstilelaw3.CipherTurned", spec := "cipherTurned", unfollowed := true, recurses := true, apart := false, narrowed := true }
def CipherTurnedUptoSaid : Prop := cipherTurnedUptoRow.holds Try.pinned (OpenSpec.upto cipherTurnedSpec)

/-- 'turnstilelaw4.SealPads', WHERE WHAT IT READS IS OF BULK AT MOST 1048576: true; the input reads as it did. -/
def sealPadsUptoRow : OpenClaim := { program := "ytopobangjpehnaa", sum := "2af4b812f826b463366c5e7590ebcf03d366fd4c52fb7c745f57fcd22a1008a2", func := "turnstile/turnstilelaw4.SealPads", spec := "sealPads", inPlace := ["internal/abi.NoEscape", "internal/bytealg.MakeNoZero"], apart := false, narrowed := true }
def SealPadsUptoSaid : Prop := sealPadsUptoRow.holds Try.pinned (OpenSpec.upto sealPadsSpec)

/-- 'turnstilelaw3.CipherTurns', WHERE WHAT IT READS IS OF BULK AT MOST 1048576: true; the input reads as it did. -/
def cipherTurnsUptoRow : OpenClaim := { program := "ytopobangjpehnaa", sum := "2af4b812f826b463366c5e7590ebcf03d366fd4c52fb7c745f57fcd22a1008a2", func := "turnstile/turnstilelaw3.CipherTurns", spec := "cipherTurns", unfollowed := true, recurses := true, apart := false, narrowed := true }
def CipherTurnsUptoSaid : Prop := cipherTurnsUptoRow.holds Try.pinned (OpenSpec.upto cipherTurnsSpec)

/-- 'turnstilelaw3.CipherXors', WHERE WHAT IT READS IS OF BULK AT MOST 1048576: true; the input reads as it did. -/
def cipherXorsUptoRow : OpenClaim := { program := "ytopobangjpehnaa", sum := "2af4b812f826b463366c5e7590ebcf03d366fd4c52fb7c745f57fcd22a1008a2", func := "turnstile/turnstilelaw3.CipherXors", spec := "cipherXors", unfollowed := true, recurses := true, apart := false, narrowed := true }
def CipherXorsUptoSaid : Prop := cipherXorsUptoRow.holds Try.pinned (OpenSpec.upto cipherXorsSpec)

/-- 'turnstilelaw4.SealChanges', WHERE WHAT IT READS IS OF BULK AT MOST 1048576: true; the input reads as it did. -/
def sealChangesUptoRow : OpenClaim := { program := "ytopobangjpehnaa", sum := "2af4b812f826b463366c5e7590ebcf03d366fd4c52fb7c745f57fcd22a1008a2", func := "turnstile/turnstilelaw4.SealChanges", spec := "sealChanges", inPlace := ["(*internal/sync.Mutex).Lock", "internal/race.Disable", "sync/atomic.CompareAndSwapInt32", "internal/race.Enable", "internal/race.Acquire", "(*internal/sync.Mutex).lockSlow", "internal/sync.runtime_canSpin", "internal/sync.runtime_doSpin", "internal/sync.throw", "internal/sync.runtime_nanotime", "internal/sync.runtime_SemacquireMutex", "sync/atomic.AddInt32", "(*internal/sync.Mutex).Unlock", "internal/race.ReleaseMerge", "(*internal/sync.Mutex).unlockSlow", "internal/sync.fatal", "internal/sync.runtime_Semrelease", "internal/abi.NoEscape", "internal/bytealg.MakeNoZero"], unfollowed := true, recurses := true, apart := false, narrowed := true }
def SealChangesUptoSaid : Prop := sealChangesUptoRow.holds Try.pinned (OpenSpec.upto sealChangesSpec)

/-- 'turnstilelaw3.CipherWeak', WHERE WHAT IT READS IS OF BULK AT MOST 1048576: true; the input reads as it did. -/
def cipherWeakUptoRow : OpenClaim := { program := "ytopobangjpehnaa", sum := "2af4b812f826b463366c5e7590ebcf03d366fd4c52fb7c745f57fcd22a1008a2", func := "turnstile/turnstilelaw3.CipherWeak", spec := "cipherWeak", unfollowed := true, recurses := true, apart := false, narrowed := true }
def CipherWeakUptoSaid : Prop := cipherWeakUptoRow.holds Try.pinned (OpenSpec.upto cipherWeakSpec)

/-- 'turnstilelaw3.CipherEach', WHERE WHAT IT READS IS OF BULK AT MOST 1048576: true; the input reads as it did. -/
def cipherEachUptoRow : OpenClaim := { program := "ytopobangjpehnaa", sum := "2af4b812f826b463366c5e7590ebcf03d366fd4c52fb7c745f57fcd22a1008a2", func := "turnstile/turnstilelaw3.CipherEach", spec := "cipherEach", unfollowed := true, recurses := true, apart := false, narrowed := true }
def CipherEachUptoSaid : Prop := cipherEachUptoRow.holds Try.pinned (OpenSpec.upto cipherEachSpec)

/-- 'turnstilelaw3.CipherChains', WHERE WHAT IT READS IS OF BULK AT MOST 1048576: true; the input reads as it did. -/
def cipherChainsUptoRow : OpenClaim := { program := "ytopobangjpehnaa", sum := "2af4b812f826b463366c5e7590ebcf03d366fd4c52fb7c745f57fcd22a1008a2", func := "turnstile/turnstilelaw3.CipherChains", spec := "cipherChains", unfollowed := true, recurses := true, apart := false, narrowed := true }
def CipherChainsUptoSaid : Prop := cipherChainsUptoRow.holds Try.pinned (OpenSpec.upto cipherChainsSpec)

/-- 'turnstilelaw3.CipherKeys', WHERE WHAT IT READS IS OF BULK AT MOST 1048576: true; the input reads as it did. -/
def cipherKeysUptoRow : OpenClaim := { program := "ytopobangjpehnaa", sum := "2af4b812f826b463366c5e7590ebcf03d366fd4c52fb7c745f57fcd22a1008a2", func := "turnstile/turnstilelaw3.CipherKeys", spec := "cipherKeys", unfollowed := true, recurses := true, apart := false, narrowed := true }
def CipherKeysUptoSaid : Prop := cipherKeysUptoRow.holds Try.pinned (OpenSpec.upto cipherKeysSpec)

/-- 'turnstilelaw3.CipherApart', WHERE WHAT IT READS IS OF BULK AT MOST 1048576: true; the input reads as it did. -/
def cipherApartUptoRow : OpenClaim := { program := "ytopobangjpehnaa", sum := "2af4b812f826b463366c5e7590ebcf03d366fd4c52fb7c745f57fcd22a1008a2", func := "turnstile/turnstilelaw3.CipherApart", spec := "cipherApart", unfollowed := true, recurses := true, apart := false, narrowed := true }
def CipherApartUptoSaid : Prop := cipherApartUptoRow.holds Try.pinned (OpenSpec.upto cipherApartSpec)

/-- 'turnstilelaw3.CipherBack', WHERE WHAT IT READS IS OF BULK AT MOST 1048576: true; the input reads as it did. -/
def cipherBackUptoRow : OpenClaim := { program := "ytopobangjpehnaa", sum := "2af4b812f826b463366c5e7590ebcf03d366fd4c52fb7c745f57fcd22a1008a2", func := "turnstile/turnstilelaw3.CipherBack", spec := "cipherBack", unfollowed := true, recurses := true, apart := false, narrowed := true }
def CipherBackUptoSaid : Prop := cipherBackUptoRow.holds Try.pinned (OpenSpec.upto cipherBackSpec)

/-- 'turnstilelaw3.CipherParts', WHERE WHAT IT READS IS OF BULK AT MOST 1048576: true; the input reads as it did. -/
def cipherPartsUptoRow : OpenClaim := { program := "ytopobangjpehnaa", sum := "2af4b812f826b463366c5e7590ebcf03d366fd4c52fb7c745f57fcd22a1008a2", func := "turnstile/turnstilelaw3.CipherParts", spec := "cipherParts", unfollowed := true, recurses := true, apart := false, narrowed := true }
def CipherPartsUptoSaid : Prop := cipherPartsUptoRow.holds Try.pinned (OpenSpec.upto cipherPartsSpec)

/-- 'turnstilelaw4.SealTags', WHERE WHAT IT READS IS OF BULK AT MOST 1048576: true; the input reads as it did. -/
def sealTagsUptoRow : OpenClaim := { program := "ytopobangjpehnaa", sum := "2af4b812f826b463366c5e7590ebcf03d366fd4c52fb7c745f57fcd22a1008a2", func := "turnstile/turnstilelaw4.SealTags", spec := "sealTags", inPlace := ["internal/abi.NoEscape", "internal/bytealg.MakeNoZero"], unfollowed := true, recurses := true, apart := false, narrowed := true }
def SealTagsUptoSaid : Prop := sealTagsUptoRow.holds Try.pinned (OpenSpec.upto sealTagsSpec)

/-- 'turnstilelaw4.SealFilled', WHERE WHAT IT READS IS OF BULK AT MOST 1048576: true; the input reads as it did. -/
def sealFilledUptoRow : OpenClaim := { program := "ytopobangjpehnaa", sum := "2af4b812f826b463366c5e7590ebcf03d366fd4c52fb7c745f57fcd22a1008a2", func := "turnstile/turnstilelaw4.SealFilled", spec := "sealFilled", inPlace := ["internal/abi.NoEscape", "internal/bytealg.MakeNoZero"], unfollowed := true, recurses := true, apart := false, narrowed := true }
def SealFilledUptoSaid : Prop := sealFilledUptoRow.holds Try.pinned (OpenSpec.upto sealFilledSpec)

/-- 'turnstilelaw4.SealKeys', WHERE WHAT IT READS IS OF BULK AT MOST 1048576: true; the input reads as it did. -/
def sealKeysUptoRow : OpenClaim := { program := "ytopobangjpehnaa", sum := "2af4b812f826b463366c5e7590ebcf03d366fd4c52fb7c745f57fcd22a1008a2", func := "turnstile/turnstilelaw4.SealKeys", spec := "sealKeys", inPlace := ["internal/abi.NoEscape", "internal/bytealg.MakeNoZero"], unfollowed := true, recurses := true, apart := false, narrowed := true }
def SealKeysUptoSaid : Prop := sealKeysUptoRow.holds Try.pinned (OpenSpec.upto sealKeysSpec)

/-- 'turnstilelaw4.SealSteps', WHERE WHAT IT READS IS OF BULK AT MOST 1048576: true; the input reads as it did. -/
def sealStepsUptoRow : OpenClaim := { program := "ytopobangjpehnaa", sum := "2af4b812f826b463366c5e7590ebcf03d366fd4c52fb7c745f57fcd22a1008a2", func := "turnstile/turnstilelaw4.SealSteps", spec := "sealSteps", inPlace := ["internal/abi.NoEscape", "internal/bytealg.MakeNoZero"], unfollowed := true, recurses := true, apart := false, narrowed := true }
def SealStepsUptoSaid : Prop := sealStepsUptoRow.holds Try.pinned (OpenSpec.upto sealStepsSpec)

/-- 'turnstilelaw4.SealOwn', WHERE WHAT IT READS IS OF BULK AT MOST 1048576: true; the input reads as it did. -/
def sealOwnUptoRow : OpenClaim := { program := "ytopobangjpehnaa", sum := "2af4b812f826b463366c5e7590ebcf03d366fd4c52fb7c745f57fcd22a1008a2", func := "turnstile/turnstilelaw4.SealOwn", spec := "sealOwn", inPlace := ["(*internal/sync.Mutex).Lock", "internal/race.Disable", "sync/atomic.CompareAndSwapInt32", "internal/race.Enable", "internal/race.Acquire", "(*internal/sync.Mutex).lockSlow", "internal/sync.runtime_canSpin", "internal/sync.runtime_doSpin", "internal/sync.throw", "internal/sync.runtime_nanotime", "internal/sync.runtime_SemacquireMutex", "sync/atomic.AddInt32", "(*internal/sync.Mutex).Unlock", "internal/race.ReleaseMerge", "(*internal/sync.Mutex).unlockSlow", "internal/sync.fatal", "internal/sync.runtime_Semrelease", "internal/abi.NoEscape", "internal/bytealg.MakeNoZero"], unfollowed := true, recurses := true, apart := false, narrowed := true }
def SealOwnUptoSaid : Prop := sealOwnUptoRow.holds Try.pinned (OpenSpec.upto sealOwnSpec)

end Rows
end Go.Proofs.Ytopobangjpehnaa
