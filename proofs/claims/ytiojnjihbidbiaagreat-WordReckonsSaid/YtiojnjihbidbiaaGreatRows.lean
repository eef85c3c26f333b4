/-
  No cell of these rows narrows 'for every input' (looked for: loops, veiled, ifaces, maps, wideKeys, modest, calm, conditions, laid).
  DERIVED. THE GIVEN ROWS OF THIS SEAT. 21 by the template 'for every input the law returns true; each argument reads behind the call as it read before'; 0 by the template 'total and deterministic' (their statements: YtiojnjihbidbiaaGreatTotals.lean).
  GIVEN WITH THE SEED: the statements are not yours to turn. If you find one false, say at which input.
  Laid BY PROGRAM, IN A SANDBOX (cutbox-rows.mjs): the forced cells as the released guide's own fill.sh prints them over the translation fb8ec978a5d78841… (all of the seat's roots in one cut). By AI agents, Wed Nov 11 2026. No macro, syntax, notation, axiom, sorry.
-/
import Derived.Test.YtiojnjihbidbiaaGreatChecked
import GoSem.Claim
import GoSem.ClaimJoined
import GoSem.ClaimMapViews
import Derived.JoinedTies
import Derived.KernelRfl
namespace Go.Proofs.YtiojnjihbidbiaaGreat
/- THE CELL 'sum', in the pinned program and in every row, IS THE sha256 OF THE DUMP (.gsa) THAT YtiojnjihbidbiaaGreatProg.lean LOADS. Nothing in Lean hashes anything: it is a label: what it is worth is what the hold of that sum in a sandbox is worth. -/
noncomputable def Tryz.pinned : Pinned := { name := "ytiojnjihbidbiaagreat", sum := "fb8ec978a5d788413a8804ea6359541191c4372d2344630f81fab39bbe79ee67", checked := Tryz.checked }
namespace Rows
def none {H : Type} : Left H := { results := [], args := [] }

/-- 'spinneylaw26.WordSums': WHATEVER THE INPUT: true; the input reads as it did. -/
def wordSumsSpec : ChangeSpec := { name := "wordSums", fn := fun _ => fun
  | [d1, d2] => { results := [.lit (.bool true)], args := [d1, d2] }
  | _ => none }
def wordSumsRow : OpenClaim := { program := "ytiojnjihbidbiaagreat", sum := "fb8ec978a5d788413a8804ea6359541191c4372d2344630f81fab39bbe79ee67", func := "spinney/spinneylaw26.WordSums", spec := "wordSums", inPlace := ["sync/atomic.AddInt64", "sync/atomic.LoadUint64", "sync/atomic.CompareAndSwapUint64", "sync/atomic.StoreUint64"], unfollowed := true, recurses := true, apart := false }
def WordSumsSaid : Prop := wordSumsRow.holds Tryz.pinned (OpenSpec.ofChange wordSumsSpec)

/-- ITS FALSE NEIGHBOUR: 'it returns false'. Refute it at one input. -/
def wordSumsWrong : ChangeSpec := { name := "wordSums", fn := fun _ => fun
  | [d1, d2] => { results := [.lit (.bool false)], args := [d1, d2] }
  | _ => none }
def WordSumsWrongFalsely : Prop := wordSumsRow.holds Tryz.pinned (OpenSpec.ofChange wordSumsWrong)

/-- 'spinneylaw26.WordRaw': WHATEVER THE INPUT: true; the input reads as it did. -/
def wordRawSpec : ChangeSpec := { name := "wordRaw", fn := fun _ => fun
  | [d1, d2] => { results := [.lit (.bool true)], args := [d1, d2] }
  | _ => none }
def wordRawRow : OpenClaim := { program := "ytiojnjihbidbiaagreat", sum := "fb8ec978a5d788413a8804ea6359541191c4372d2344630f81fab39bbe79ee67", func := "spinney/spinneylaw26.WordRaw", spec := "wordRaw", inPlace := ["sync/atomic.AddInt64", "sync/atomic.LoadUint64", "sync/atomic.CompareAndSwapUint64", "sync/atomic.StoreUint64"], unfollowed := true, recurses := true, apart := false }
def WordRawSaid : Prop := wordRawRow.holds Tryz.pinned (OpenSpec.ofChange wordRawSpec)

/-- ITS FALSE NEIGHBOUR: 'it returns false'. Refute it at one input. -/
def wordRawWrong : ChangeSpec := { name := "wordRaw", fn := fun _ => fun
  | [d1, d2] => { results := [.lit (.bool false)], args := [d1, d2] }
  | _ => none }
def WordRawWrongFalsely : Prop := wordRawRow.holds Tryz.pinned (OpenSpec.ofChange wordRawWrong)

/-- 'spinneylaw26.WordOrders': WHATEVER THE INPUT: true; the input reads as it did. -/
def wordOrdersSpec : ChangeSpec := { name := "wordOrders", fn := fun _ => fun
  | [d] => { results := [.lit (.bool true)], args := [d] }
  | _ => none }
def wordOrdersRow : OpenClaim := { program := "ytiojnjihbidbiaagreat", sum := "fb8ec978a5d788413a8804ea6359541191c4372d2344630f81fab39bbe79ee67", func := "spinney/spinneylaw26.WordOrders", spec := "wordOrders", inPlace := ["sync/atomic.AddInt64", "sync/atomic.LoadUint64", "sync/atomic.CompareAndSwapUint64", "sync/atomic.StoreUint64"], unfollowed := true, recurses := true, apart := false }
def WordOrdersSaid : Prop := wordOrdersRow.holds Tryz.pinned (OpenSpec.ofChange wordOrdersSpec)

/-- ITS FALSE NEIGHBOUR: 'it returns false'. Refute it at one input. -/
def wordOrdersWrong : ChangeSpec := { name := "wordOrders", fn := fun _ => fun
  | [d] => { results := [.lit (.bool false)], args := [d] }
  | _ => none }
def WordOrdersWrongFalsely : Prop := wordOrdersRow.holds Tryz.pinned (OpenSpec.ofChange wordOrdersWrong)

/-- 'spinneylaw26.WordReckons': WHATEVER THE INPUT: true; the input reads as it did. -/
def wordReckonsSpec : ChangeSpec := { name := "wordReckons", fn := fun _ => fun
  | [d1, d2, d3, d4] => { results := [.lit (.bool true)], args := [d1, d2, d3, d4] }
  | _ => none }
def wordReckonsRow : OpenClaim := { program := "ytiojnjihbidbiaagreat", sum := "fb8ec978a5d788413a8804ea6359541191c4372d2344630f81fab39bbe79ee67", func := "spinney/spinneylaw26.WordReckons", spec := "wordReckons", inPlace := ["sync/atomic.AddInt64", "sync/atomic.LoadUint64", "sync/atomic.CompareAndSwapUint64", "sync/atomic.StoreUint64"], unfollowed := true, recurses := true, apart := false }
def WordReckonsSaid : Prop := wordReckonsRow.holds Tryz.pinned (OpenSpec.ofChange wordReckonsSpec)

/-- ITS FALSE NEIGHBOUR: 'it returns false'. Refute it at one input. -/
def wordReckonsWrong : ChangeSpec := { name := "wordReckons", fn := fun _ => fun
  | [d1, d2, d3, d4] => { results := [.lit (.bool false)], args := [d1, d2, d3, d4] }
  | _ => none }
def WordReckonsWrongFalsely : Prop := wordReckonsRow.holds Tryz.pinned (OpenSpec.ofChange wordReckonsWrong)

/-- 'spinneylaw16.RelJoins': WHATEVER THE INPUT: true; the input reads as it did. -/
def relJoinsSpec : ChangeSpec := { name := "relJoins", fn := fun _ => fun
  | [d1, d2, d3, d4] => { results := [.lit (.bool true)], args := [d1, d2, d3, d4] }
  | _ => none }
def relJoinsRow : OpenClaim := { program := "ytiojnjihbidbiaagreat", sum := "fb8ec978a5d788413a8804ea6359541191c4372d2344630f81fab39bbe79ee67", func := "spinney/spinneylaw16.RelJoins", spec := "relJoins", inPlace := ["sync/atomic.AddInt64", "sync/atomic.LoadUint64", "sync/atomic.CompareAndSwapUint64", "sync/atomic.StoreUint64"], unfollowed := true, recurses := true, apart := false }
def RelJoinsSaid : Prop := relJoinsRow.holds Tryz.pinned (OpenSpec.ofChange relJoinsSpec)

/-- ITS FALSE NEIGHBOUR: 'it returns false'. Refute it at one input. -/
def relJoinsWrong : ChangeSpec := { name := "relJoins", fn := fun _ => fun
  | [d1, d2, d3, d4] => { results := [.lit (.bool false)], args := [d1, d2, d3, d4] }
  | _ => none }
def RelJoinsWrongFalsely : Prop := relJoinsRow.holds Tryz.pinned (OpenSpec.ofChange relJoinsWrong)

/-- 'spinneylaw16.RelMeets': WHATEVER THE INPUT: true; the input reads as it did. -/
def relMeetsSpec : ChangeSpec := { name := "relMeets", fn := fun _ => fun
  | [d1, d2, d3] => { results := [.lit (.bool true)], args := [d1, d2, d3] }
  | _ => none }
def relMeetsRow : OpenClaim := { program := "ytiojnjihbidbiaagreat", sum := "fb8ec978a5d788413a8804ea6359541191c4372d2344630f81fab39bbe79ee67", func := "spinney/spinneylaw16.RelMeets", spec := "relMeets", inPlace := ["sync/atomic.AddInt64", "sync/atomic.LoadUint64", "sync/atomic.CompareAndSwapUint64", "sync/atomic.StoreUint64"], unfollowed := true, recurses := true, apart := false }
def RelMeetsSaid : Prop := relMeetsRow.holds Tryz.pinned (OpenSpec.ofChange relMeetsSpec)

/-- ITS FALSE NEIGHBOUR: 'it returns false'. Refute it at one input. -/
def relMeetsWrong : ChangeSpec := { name := "relMeets", fn := fun _ => fun
  | [d1, d2, d3] => { results := [.lit (.bool false)], args := [d1, d2, d3] }
  | _ => none }
def RelMeetsWrongFalsely : Prop := relMeetsRow.holds Tryz.pinned (OpenSpec.ofChange relMeetsWrong)

/-- 'spinneylaw16.RelPairs': WHATEVER THE INPUT: true; the input reads as it did. -/
def relPairsSpec : ChangeSpec := { name := "relPairs", fn := fun _ => fun
  | [d1, d2, d3] => { results := [.lit (.bool true)], args := [d1, d2, d3] }
  | _ => none }
def relPairsRow : OpenClaim := { program := "ytiojnjihbidbiaagreat", sum := "fb8ec978a5d788413a8804ea6359541191c4372d2344630f81fab39bbe79ee67", func := "spinney/spinneylaw16.RelPairs", spec := "relPairs", inPlace := ["sync/atomic.AddInt64", "sync/atomic.LoadUint64", "sync/atomic.CompareAndSwapUint64", "sync/atomic.StoreUint64"], unfollowed := true, recurses := true, apart := false }
def RelPairsSaid : Prop := relPairsRow.holds Tryz.pinned (OpenSpec.ofChange relPairsSpec)

/-- ITS FALSE NEIGHBOUR: 'it returns false'. Refute it at one input. -/
def relPairsWrong : ChangeSpec := { name := "relPairs", fn := fun _ => fun
  | [d1, d2, d3] => { results := [.lit (.bool false)], args := [d1, d2, d3] }
  | _ => none }
def RelPairsWrongFalsely : Prop := relPairsRow.holds Tryz.pinned (OpenSpec.ofChange relPairsWrong)

/-- 'spinneylaw16.RelTells': WHATEVER THE INPUT: true; the input reads as it did. -/
def relTellsSpec : ChangeSpec := { name := "relTells", fn := fun _ => fun
  | [d1, d2, d3, d4, d5] => { results := [.lit (.bool true)], args := [d1, d2, d3, d4, d5] }
  | _ => none }
def relTellsRow : OpenClaim := { program := "ytiojnjihbidbiaagreat", sum := "fb8ec978a5d788413a8804ea6359541191c4372d2344630f81fab39bbe79ee67", func := "spinney/spinneylaw16.RelTells", spec := "relTells", inPlace := ["sync/atomic.AddInt64", "sync/atomic.LoadUint64", "sync/atomic.CompareAndSwapUint64", "sync/atomic.StoreUint64"], unfollowed := true, recurses := true, apart := false }
def RelTellsSaid : Prop := relTellsRow.holds Tryz.pinned (OpenSpec.ofChange relTellsSpec)

/-- ITS FALSE NEIGHBOUR: 'it returns false'. Refute it at one input. -/
def relTellsWrong : ChangeSpec := { name := "relTells", fn := fun _ => fun
  | [d1, d2, d3, d4, d5] => { results := [.lit (.bool false)], args := [d1, d2, d3, d4, d5] }
  | _ => none }
def RelTellsWrongFalsely : Prop := relTellsRow.holds Tryz.pinned (OpenSpec.ofChange relTellsWrong)

/-- 'spinneylaw16.RelReach': WHATEVER THE INPUT: true; the input reads as it did. -/
def relReachSpec : ChangeSpec := { name := "relReach", fn := fun _ => fun
  | [d1, d2, d3] => { results := [.lit (.bool true)], args := [d1, d2, d3] }
  | _ => none }
def relReachRow : OpenClaim := { program := "ytiojnjihbidbiaagreat", sum := "fb8ec978a5d788413a8804ea6359541191c4372d2344630f81fab39bbe79ee67", func := "spinney/spinneylaw16.RelReach", spec := "relReach", inPlace := ["sync/atomic.AddInt64", "sync/atomic.LoadUint64", "sync/atomic.CompareAndSwapUint64", "sync/atomic.StoreUint64"], unfollowed := true, recurses := true, apart := false }
def RelReachSaid : Prop := relReachRow.holds Tryz.pinned (OpenSpec.ofChange relReachSpec)

/-- ITS FALSE NEIGHBOUR: 'it returns false'. Refute it at one input. -/
def relReachWrong : ChangeSpec := { name := "relReach", fn := fun _ => fun
  | [d1, d2, d3] => { results := [.lit (.bool false)], args := [d1, d2, d3] }
  | _ => none }
def RelReachWrongFalsely : Prop := relReachRow.holds Tryz.pinned (OpenSpec.ofChange relReachWrong)

/-- 'spinneylaw16.RelReached': WHATEVER THE INPUT: true; the input reads as it did. -/
def relReachedSpec : ChangeSpec := { name := "relReached", fn := fun _ => fun
  | [d1, d2, d3] => { results := [.lit (.bool true)], args := [d1, d2, d3] }
  | _ => none }
def relReachedRow : OpenClaim := { program := "ytiojnjihbidbiaagreat", sum := "fb8ec978a5d788413a8804ea6359541191c4372d2344630f81fab39bbe79ee67", func := "spinney/spinneylaw16.RelReached", spec := "relReached", inPlace := ["sync/atomic.AddInt64", "sync/atomic.LoadUint64", "sync/atomic.CompareAndSwapUint64", "sync/atomic.StoreUint64"], unfollowed := true, recurses := true, apart := false }
def RelReachedSaid : Prop := relReachedRow.holds Tryz.pinned (OpenSpec.ofChange relReachedSpec)

/-- ITS FALSE NEIGHBOUR: 'it returns false'. Refute it at one input. -/
def relReachedWrong : ChangeSpec := { name := "relReached", fn := fun _ => fun
  | [d1, d2, d3] => { results := [.lit (.bool false)], args := [d1, d2, d3] }
  | _ => none }
def RelReachedWrongFalsely : Prop := relReachedRow.holds Tryz.pinned (OpenSpec.ofChange relReachedWrong)

/-- 'spinneylaw16.RelChain': WHATEVER THE INPUT: true; the input reads as it did. -/
def relChainSpec : ChangeSpec := { name := "relChain", fn := fun _ => fun
  | [d] => { results := [.lit (.bool true)], args := [d] }
  | _ => none }
def relChainRow : OpenClaim := { program := "ytiojnjihbidbiaagreat", sum := "fb8ec978a5d788413a8804ea6359541191c4372d2344630f81fab39bbe79ee67", func := "spinney/spinneylaw16.RelChain", spec := "relChain", inPlace := ["sync/atomic.AddInt64", "sync/atomic.LoadUint64", "sync/atomic.CompareAndSwapUint64", "sync/atomic.StoreUint64"], unfollowed := true, recurses := true, apart := false }
def RelChainSaid : Prop := relChainRow.holds Tryz.pinned (OpenSpec.ofChange relChainSpec)

/-- ITS FALSE NEIGHBOUR: 'it returns false'. Refute it at one input. -/
def relChainWrong : ChangeSpec := { name := "relChain", fn := fun _ => fun
  | [d] => { results := [.lit (.bool false)], args := [d] }
  | _ => none }
def RelChainWrongFalsely : Prop := relChainRow.holds Tryz.pinned (OpenSpec.ofChange relChainWrong)

/-- 'spinneylaw28.IsopCovers': WHATEVER THE INPUT: true; the input reads as it did. -/
def isopCoversSpec : ChangeSpec := { name := "isopCovers", fn := fun _ => fun
  | [d1, d2, d3] => { results := [.lit (.bool true)], args := [d1, d2, d3] }
  | _ => none }
def isopCoversRow : OpenClaim := { program := "ytiojnjihbidbiaagreat", sum := "fb8ec978a5d788413a8804ea6359541191c4372d2344630f81fab39bbe79ee67", func := "spinney/spinneylaw28.IsopCovers", spec := "isopCovers", inPlace := ["sync/atomic.AddInt64", "sync/atomic.LoadUint64", "sync/atomic.CompareAndSwapUint64", "sync/atomic.StoreUint64"], unfollowed := true, recurses := true, apart := false }
def IsopCoversSaid : Prop := isopCoversRow.holds Tryz.pinned (OpenSpec.ofChange isopCoversSpec)

/-- ITS FALSE NEIGHBOUR: 'it returns false'. Refute it at one input. -/
def isopCoversWrong : ChangeSpec := { name := "isopCovers", fn := fun _ => fun
  | [d1, d2, d3] => { results := [.lit (.bool false)], args := [d1, d2, d3] }
  | _ => none }
def IsopCoversWrongFalsely : Prop := isopCoversRow.holds Tryz.pinned (OpenSpec.ofChange isopCoversWrong)

/-- 'spinneylaw28.IsopPrimes': WHATEVER THE INPUT: true; the input reads as it did. -/
def isopPrimesSpec : ChangeSpec := { name := "isopPrimes", fn := fun _ => fun
  | [d1, d2, d3, d4] => { results := [.lit (.bool true)], args := [d1, d2, d3, d4] }
  | _ => none }
def isopPrimesRow : OpenClaim := { program := "ytiojnjihbidbiaagreat", sum := "fb8ec978a5d788413a8804ea6359541191c4372d2344630f81fab39bbe79ee67", func := "spinney/spinneylaw28.IsopPrimes", spec := "isopPrimes", inPlace := ["sync/atomic.AddInt64", "sync/atomic.LoadUint64", "sync/atomic.CompareAndSwapUint64", "sync/atomic.StoreUint64"], unfollowed := true, recurses := true, apart := false }
def IsopPrimesSaid : Prop := isopPrimesRow.holds Tryz.pinned (OpenSpec.ofChange isopPrimesSpec)

/-- ITS FALSE NEIGHBOUR: 'it returns false'. Refute it at one input. -/
def isopPrimesWrong : ChangeSpec := { name := "isopPrimes", fn := fun _ => fun
  | [d1, d2, d3, d4] => { results := [.lit (.bool false)], args := [d1, d2, d3, d4] }
  | _ => none }
def IsopPrimesWrongFalsely : Prop := isopPrimesRow.holds Tryz.pinned (OpenSpec.ofChange isopPrimesWrong)

/-- 'spinneylaw28.IsopOwn': WHATEVER THE INPUT: true; the input reads as it did. -/
def isopOwnSpec : ChangeSpec := { name := "isopOwn", fn := fun _ => fun
  | [d1, d2, d3] => { results := [.lit (.bool true)], args := [d1, d2, d3] }
  | _ => none }
def isopOwnRow : OpenClaim := { program := "ytiojnjihbidbiaagreat", sum := "fb8ec978a5d788413a8804ea6359541191c4372d2344630f81fab39bbe79ee67", func := "spinney/spinneylaw28.IsopOwn", spec := "isopOwn", inPlace := ["sync/atomic.AddInt64", "sync/atomic.LoadUint64", "sync/atomic.CompareAndSwapUint64", "sync/atomic.StoreUint64"], unfollowed := true, recurses := true, apart := false }
def IsopOwnSaid : Prop := isopOwnRow.holds Tryz.pinned (OpenSpec.ofChange isopOwnSpec)

/-- ITS FALSE NEIGHBOUR: 'it returns false'. Refute it at one input. -/
def isopOwnWrong : ChangeSpec := { name := "isopOwn", fn := fun _ => fun
  | [d1, d2, d3] => { results := [.lit (.bool false)], args := [d1, d2, d3] }
  | _ => none }
def IsopOwnWrongFalsely : Prop := isopOwnRow.holds Tryz.pinned (OpenSpec.ofChange isopOwnWrong)

/-- 'spinneylaw28.IsopSums': WHATEVER THE INPUT: true; the input reads as it did. -/
def isopSumsSpec : ChangeSpec := { name := "isopSums", fn := fun _ => fun
  | [d1, d2] => { results := [.lit (.bool true)], args := [d1, d2] }
  | _ => none }
def isopSumsRow : OpenClaim := { program := "ytiojnjihbidbiaagreat", sum := "fb8ec978a5d788413a8804ea6359541191c4372d2344630f81fab39bbe79ee67", func := "spinney/spinneylaw28.IsopSums", spec := "isopSums", inPlace := ["sync/atomic.AddInt64", "sync/atomic.LoadUint64", "sync/atomic.CompareAndSwapUint64", "sync/atomic.StoreUint64"], unfollowed := true, recurses := true, apart := false }
def IsopSumsSaid : Prop := isopSumsRow.holds Tryz.pinned (OpenSpec.ofChange isopSumsSpec)

/-- ITS FALSE NEIGHBOUR: 'it returns false'. Refute it at one input. -/
def isopSumsWrong : ChangeSpec := { name := "isopSums", fn := fun _ => fun
  | [d1, d2] => { results := [.lit (.bool false)], args := [d1, d2] }
  | _ => none }
def IsopSumsWrongFalsely : Prop := isopSumsRow.holds Tryz.pinned (OpenSpec.ofChange isopSumsWrong)

/-- 'spinneylaw28.IsopRaw': WHATEVER THE INPUT: true; the input reads as it did. -/
def isopRawSpec : ChangeSpec := { name := "isopRaw", fn := fun _ => fun
  | [d1, d2, d3, d4] => { results := [.lit (.bool true)], args := [d1, d2, d3, d4] }
  | _ => none }
def isopRawRow : OpenClaim := { program := "ytiojnjihbidbiaagreat", sum := "fb8ec978a5d788413a8804ea6359541191c4372d2344630f81fab39bbe79ee67", func := "spinney/spinneylaw28.IsopRaw", spec := "isopRaw", inPlace := ["sync/atomic.AddInt64", "sync/atomic.LoadUint64", "sync/atomic.CompareAndSwapUint64", "sync/atomic.StoreUint64"], unfollowed := true, recurses := true, apart := false }
def IsopRawSaid : Prop := isopRawRow.holds Tryz.pinned (OpenSpec.ofChange isopRawSpec)

/-- ITS FALSE NEIGHBOUR: 'it returns false'. Refute it at one input. -/
def isopRawWrong : ChangeSpec := { name := "isopRaw", fn := fun _ => fun
  | [d1, d2, d3, d4] => { results := [.lit (.bool false)], args := [d1, d2, d3, d4] }
  | _ => none }
def IsopRawWrongFalsely : Prop := isopRawRow.holds Tryz.pinned (OpenSpec.ofChange isopRawWrong)

/-- 'spinneylaw28.IsopBetween': WHATEVER THE INPUT: true; the input reads as it did. -/
def isopBetweenSpec : ChangeSpec := { name := "isopBetween", fn := fun _ => fun
  | [d1, d2] => { results := [.lit (.bool true)], args := [d1, d2] }
  | _ => none }
def isopBetweenRow : OpenClaim := { program := "ytiojnjihbidbiaagreat", sum := "fb8ec978a5d788413a8804ea6359541191c4372d2344630f81fab39bbe79ee67", func := "spinney/spinneylaw28.IsopBetween", spec := "isopBetween", inPlace := ["sync/atomic.AddInt64", "sync/atomic.LoadUint64", "sync/atomic.CompareAndSwapUint64", "sync/atomic.StoreUint64"], unfollowed := true, recurses := true, apart := false }
def IsopBetweenSaid : Prop := isopBetweenRow.holds Tryz.pinned (OpenSpec.ofChange isopBetweenSpec)

/-- ITS FALSE NEIGHBOUR: 'it returns false'. Refute it at one input. -/
def isopBetweenWrong : ChangeSpec := { name := "isopBetween", fn := fun _ => fun
  | [d1, d2] => { results := [.lit (.bool false)], args := [d1, d2] }
  | _ => none }
def IsopBetweenWrongFalsely : Prop := isopBetweenRow.holds Tryz.pinned (OpenSpec.ofChange isopBetweenWrong)

/-- 'spinneylaw28.IsopCaresAll': WHATEVER THE INPUT: true; the input reads as it did. -/
def isopCaresAllSpec : ChangeSpec := { name := "isopCaresAll", fn := fun _ => fun
  | [d1, d2] => { results := [.lit (.bool true)], args := [d1, d2] }
  | _ => none }
def isopCaresAllRow : OpenClaim := { program := "ytiojnjihbidbiaagreat", sum := "fb8ec978a5d788413a8804ea6359541191c4372d2344630f81fab39bbe79ee67", func := "spinney/spinneylaw28.IsopCaresAll", spec := "isopCaresAll", inPlace := ["sync/atomic.AddInt64", "sync/atomic.LoadUint64", "sync/atomic.CompareAndSwapUint64", "sync/atomic.StoreUint64"], unfollowed := true, recurses := true, apart := false }
def IsopCaresAllSaid : Prop := isopCaresAllRow.holds Tryz.pinned (OpenSpec.ofChange isopCaresAllSpec)

/-- ITS FALSE NEIGHBOUR: 'it returns false'. Refute it at one input. -/
def isopCaresAllWrong : ChangeSpec := { name := "isopCaresAll", fn := fun _ => fun
  | [d1, d2] => { results := [.lit (.bool false)], args := [d1, d2] }
  | _ => none }
def IsopCaresAllWrongFalsely : Prop := isopCaresAllRow.holds Tryz.pinned (OpenSpec.ofChange isopCaresAllWrong)

/-- 'spinneylaw28.IsopCares': WHATEVER THE INPUT: true; the input reads as it did. -/
def isopCaresSpec : ChangeSpec := { name := "isopCares", fn := fun _ => fun
  | [d1, d2] => { results := [.lit (.bool true)], args := [d1, d2] }
  | _ => none }
def isopCaresRow : OpenClaim := { program := "ytiojnjihbidbiaagreat", sum := "fb8ec978a5d788413a8804ea6359541191c4372d2344630f81fab39bbe79ee67", func := "spinney/spinneylaw28.IsopCares", spec := "isopCares", inPlace := ["sync/atomic.AddInt64", "sync/atomic.LoadUint64", "sync/atomic.CompareAndSwapUint64", "sync/atomic.StoreUint64"], unfollowed := true, recurses := true, apart := false }
def IsopCaresSaid : Prop := isopCaresRow.holds Tryz.pinned (OpenSpec.ofChange isopCaresSpec)

/-- ITS FALSE NEIGHBOUR: 'it returns false'. Refute it at one input. -/
def isopCaresWrong : ChangeSpec := { name := "isopCares", fn := fun _ => fun
  | [d1, d2] => { results := [.lit (.bool false)], args := [d1, d2] }
  | _ => none }
def IsopCaresWrongFalsely : Prop := isopCaresRow.holds Tryz.pinned (OpenSpec.ofChange isopCaresWrong)

/-- 'spinneylaw23.ExprQuants': WHATEVER THE INPUT: true; the input reads as it did. -/
def exprQuantsSpec : ChangeSpec := { name := "exprQuants", fn := fun _ => fun
  | [d1, d2] => { results := [.lit (.bool true)], args := [d1, d2] }
  | _ => none }
def exprQuantsRow : OpenClaim := { program := "ytiojnjihbidbiaagreat", sum := "fb8ec978a5d788413a8804ea6359541191c4372d2344630f81fab39bbe79ee67", func := "spinney/spinneylaw23.ExprQuants", spec := "exprQuants", inPlace := ["sync/atomic.AddInt64", "sync/atomic.LoadUint64", "sync/atomic.CompareAndSwapUint64", "sync/atomic.StoreUint64"], unfollowed := true, recurses := true, apart := false }
def ExprQuantsSaid : Prop := exprQuantsRow.holds Tryz.pinned (OpenSpec.ofChange exprQuantsSpec)

/-- ITS FALSE NEIGHBOUR: 'it returns false'. Refute it at one input. -/
def exprQuantsWrong : ChangeSpec := { name := "exprQuants", fn := fun _ => fun
  | [d1, d2] => { results := [.lit (.bool false)], args := [d1, d2] }
  | _ => none }
def ExprQuantsWrongFalsely : Prop := exprQuantsRow.holds Tryz.pinned (OpenSpec.ofChange exprQuantsWrong)

/-- 'spinneylaw23.ExprBuilds': WHATEVER THE INPUT: true; the input reads as it did. -/
def exprBuildsSpec : ChangeSpec := { name := "exprBuilds", fn := fun _ => fun
  | [d1, d2] => { results := [.lit (.bool true)], args := [d1, d2] }
  | _ => none }
def exprBuildsRow : OpenClaim := { program := "ytiojnjihbidbiaagreat", sum := "fb8ec978a5d788413a8804ea6359541191c4372d2344630f81fab39bbe79ee67", func := "spinney/spinneylaw23.ExprBuilds", spec := "exprBuilds", inPlace := ["sync/atomic.AddInt64", "sync/atomic.LoadUint64", "sync/atomic.CompareAndSwapUint64", "sync/atomic.StoreUint64"], unfollowed := true, recurses := true, apart := false }
def ExprBuildsSaid : Prop := exprBuildsRow.holds Tryz.pinned (OpenSpec.ofChange exprBuildsSpec)

/-- ITS FALSE NEIGHBOUR: 'it returns false'. Refute it at one input. -/
def exprBuildsWrong : ChangeSpec := { name := "exprBuilds", fn := fun _ => fun
  | [d1, d2] => { results := [.lit (.bool false)], args := [d1, d2] }
  | _ => none }
def ExprBuildsWrongFalsely : Prop := exprBuildsRow.holds Tryz.pinned (OpenSpec.ofChange exprBuildsWrong)

/- THE SECOND FORM. 'bulk': how many values and letters a reading holds, each counted each time it is reached (what is shared counts as often as it is met; a slice's spare places count too). A statement '..UptoSaid' is the law's where the arguments, and the package variables that the reading takes, are together of bulk at most 1048576: NARROWER than '..Said'. Prove '..Said' where nothing that the law and all that it calls make is longer than what came in: it says more and counts as full. Else prove '..UptoSaid'. A law counts once. -/
mutual
def uptoBulk {H : Type} : DataW H → Nat
  | .lit (.string bytes) => bytes.length + 1
  | .lit _ => 1
  | .nil => 1
  | .ptr d => uptoBulk d + 1
  | .slice elems spare => uptoBulkAll elems + uptoBulkAll spare + 1
  | .agg parts => uptoBulkAll parts + 1
  | .iface _ d => uptoBulk d + 1
  | .map entries => uptoBulkEntries entries + 1
  | .held _ => 1
def uptoBulkAll {H : Type} : List (DataW H) → Nat
  | [] => 0
  | d :: r => uptoBulk d + uptoBulkAll r
def uptoBulkEntries {H : Type} : List (Lit × DataW H) → Nat
  | [] => 0
  | x :: r => uptoBulkEntry x + uptoBulkEntries r
def uptoBulkEntry {H : Type} : Lit × DataW H → Nat
  | (.string bytes, d) => bytes.length + uptoBulk d + 1
  | (_, d) => uptoBulk d + 1
 end
def uptoSmall : (H : Type) → List (DataW H) → Bool := fun _ ds => decide (uptoBulkAll ds ≤ 1048576)
def OpenSpec.upto (s : _root_.Go.ChangeSpec) : _root_.Go.OpenSpec := { _root_.Go.OpenSpec.ofChange s with cond := some uptoSmall }

/-- 'spinneylaw26.WordSums', WHERE WHAT IT READS IS OF BULK AT MOST 1048576: true; the input reads as it did. -/
def wordSumsUptoRow : OpenClaim := { program := "ytiojnjihbidbiaagreat", sum := "fb8ec978a5d788413a8804ea6359541191c4372d2344630f81fab39bbe79ee67", func := "spinney/spinneylaw26.WordSums", spec := "wordSums", inPlace := ["sync/atomic.AddInt64", "sync/atomic.LoadUint64", "sync/atomic.CompareAndSwapUint64", "sync/atomic.StoreUint64"], unfollowed := true, recurses := true, apart := false, narrowed := true }
def WordSumsUptoSaid : Prop := wordSumsUptoRow.holds Tryz.pinned (OpenSpec.upto wordSumsSpec)

/-- 'spinneylaw26.WordRaw', WHERE WHAT IT READS IS OF BULK AT MOST 1048576: true; the input reads as it did. -/
def wordRawUptoRow : OpenClaim := { program := "ytiojnjihbidbiaagreat", sum := "fb8ec978a5d788413a8804ea6359541191c4372d2344630f81fab39bbe79ee67", func := "spinney/spinneylaw26.WordRaw", spec := "wordRaw", inPlace := ["sync/atomic.AddInt64", "sync/atomic.LoadUint64", "sync/atomic.CompareAndSwapUint64", "sync/atomic.StoreUint64"], unfollowed := true, recurses := true, apart := false, narrowed := true }
def WordRawUptoSaid : Prop := wordRawUptoRow.holds Tryz.pinned (OpenSpec.upto wordRawSpec)

/-- 'spinneylaw26.WordOrders', WHERE WHAT IT READS IS OF BULK AT MOST 1048576: true; the input reads as it did. -/
def wordOrdersUptoRow : OpenClaim := { program := "ytiojnjihbidbiaagreat", sum := "fb8ec978a5d788413a8804ea6359541191c4372d2344630f81fab39bbe79ee67", func := "spinney/spinneylaw26.WordOrders", spec := "wordOrders", inPlace := ["sync/atomic.AddInt64", "sync/atomic.LoadUint64", "sync/atomic.CompareAndSwapUint64", "sync/atomic.StoreUint64"], unfollowed := true, recurses := true, apart := false, narrowed := true }
def WordOrdersUptoSaid : Prop := wordOrdersUptoRow.holds Tryz.pinned (OpenSpec.upto wordOrdersSpec)

/-- 'spinneylaw26.WordReckons', WHERE WHAT IT READS IS OF BULK AT MOST 1048576: true; the input reads as it did. -/
def wordReckonsUptoRow : OpenClaim := { program := "ytiojnjihbidbiaagreat", sum := "fb8ec978a5d788413a8804ea6359541191c4372d2344630f81fab39bbe79ee67", func := "spinney/spinneylaw26.WordReckons", spec := "wordReckons", inPlace := ["sync/atomic.AddInt64", "sync/atomic.LoadUint64", "sync/atomic.CompareAndSwapUint64", "sync/atomic.StoreUint64"], unfollowed := true, recurses := true, apart := false, narrowed := true }
def WordReckonsUptoSaid : Prop := wordReckonsUptoRow.holds Tryz.pinned (OpenSpec.upto wordReckonsSpec)

/-- 'spinneylaw16.RelJoins', WHERE WHAT IT READS IS OF BULK AT MOST 1048576: true; the input reads as it did. -/
def relJoinsUptoRow : OpenClaim := { program := "ytiojnjihbidbiaagreat", sum := "fb8ec978a5d788413a8804ea6359541191c4372d2344630f81fab39bbe79ee67", func := "spinney/spinneylaw16.RelJoins", spec := "relJoins", inPlace := ["sync/atomic.AddInt64", "sync/atomic.LoadUint64", "sync/atomic.CompareAndSwapUint64", "sync/atomic.StoreUint64"], unfollowed := true, recurses := true, apart := false, narrowed := true }
def RelJoinsUptoSaid : Prop := relJoinsUptoRow.holds Tryz.pinned (OpenSpec.upto relJoinsSpec)

/-- 'spinneylaw16.RelMeets', WHERE WHAT IT READS IS OF BULK AT MOST 1048576: true; the input reads as it did. -/
def relMeetsUptoRow : OpenClaim := { program := "ytiojnjihbidbiaagreat", sum := "fb8ec978a5d788413a8804ea6359541191c4372d2344630f81fab39bbe79ee67", func := "spinney/spinneylaw16.RelMeets", spec := "relMeets", inPlace := ["sync/atomic.AddInt64", "sync/atomic.LoadUint64", "sync/atomic.CompareAndSwapUint64", "sync/atomic.StoreUint64"], unfollowed := true, recurses := true, apart := false, narrowed := true }
def RelMeetsUptoSaid : Prop := relMeetsUptoRow.holds Tryz.pinned (OpenSpec.upto relMeetsSpec)

/-- 'spinneylaw16.RelPairs', WHERE WHAT IT READS IS OF BULK AT MOST 1048576: true; the input reads as it did. -/
def relPairsUptoRow : OpenClaim := { program := "ytiojnjihbidbiaagreat", sum := "fb8ec978a5d788413a8804ea6359541191c4372d2344630f81fab39bbe79ee67", func := "spinney/spinneylaw16.RelPairs", spec := "relPairs", inPlace := ["sync/atomic.AddInt64", "sync/atomic.LoadUint64", "sync/atomic.CompareAndSwapUint64", "sync/atomic.StoreUint64"], unfollowed := true, recurses := true, apart := false, narrowed := true }
def RelPairsUptoSaid : Prop := relPairsUptoRow.holds Tryz.pinned (OpenSpec.upto relPairsSpec)

/-- 'spinneylaw16.RelTells', WHERE WHAT IT READS IS OF BULK AT MOST 1048576: true; the input reads as it did. -/
def relTellsUptoRow : OpenClaim := { program := "ytiojnjihbidbiaagreat", sum := "fb8ec978a5d788413a8804ea6359541191c4372d2344630f81fab39bbe79ee67", func := "spinney/spinneylaw16.RelTells", spec := "relTells", inPlace := ["sync/atomic.AddInt64", "sync/atomic.LoadUint64", "sync/atomic.CompareAndSwapUint64", "sync/atomic.StoreUint64"], unfollowed := true, recurses := true, apart := false, narrowed := true }
def RelTellsUptoSaid : Prop := relTellsUptoRow.holds Tryz.pinned (OpenSpec.upto relTellsSpec)

/-- 'spinneylaw16.RelReach', WHERE WHAT IT READS IS OF BULK AT MOST 1048576: true; the input reads as it did. -/
def relReachUptoRow : OpenClaim := { program := "ytiojnjihbidbiaagreat", sum := "fb8ec978a5d788413a8804ea6359541191c4372d2344630f81fab39bbe79ee67", func := "spinney/spinneylaw16.RelReach", spec := "relReach", inPlace := ["sync/atomic.AddInt64", "sync/atomic.LoadUint64", "sync/atomic.CompareAndSwapUint64", "sync/atomic.StoreUint64"], unfollowed := true, recurses := true, apart := false, narrowed := true }
def RelReachUptoSaid : Prop := relReachUptoRow.holds Tryz.pinned (OpenSpec.upto relReachSpec)

/-- 'spinneylaw16.RelReached', WHERE WHAT IT READS IS OF BULK AT MOST 1048576: true; the input reads as it did. -/
def relReachedUptoRow : OpenClaim := { program := "ytiojnjihbidbiaagreat", sum := "fb8ec978a5d788413a8804ea6359541191c4372d2344630f81fab39bbe79ee67", func := "spinney/spinneylaw16.RelReached", spec := "relReached", inPlace := ["sync/atomic.AddInt64", "sync/atomic.LoadUint64", "sync/atomic.CompareAndSwapUint64", "sync/atomic.StoreUint64"], unfollowed := true, recurses := true, apart := false, narrowed := true }
def RelReachedUptoSaid : Prop := relReachedUptoRow.holds Tryz.pinned (OpenSpec.upto relReachedSpec)

/-- 'spinneylaw16.RelChain', WHERE WHAT IT READS IS OF BULK AT MOST 1048576: true; the input reads as it did. -/
def relChainUptoRow : OpenClaim := { program := "ytiojnjihbidbiaagreat", sum := "fb8ec978a5d788413a8804ea6359541191c4372d2344630f81fab39bbe79ee67", func := "spinney/spinneylaw16.RelChain", spec := "relChain", inPlace := ["sync/atomic.AddInt64", "sync/atomic.LoadUint64", "sync/atomic.CompareAndSwapUint64", "sync/atomic.StoreUint64"], unfollowed := true, recurses := true, apart := false, narrowed := true }
def RelChainUptoSaid : Prop := relChainUptoRow.holds Tryz.pinned (OpenSpec.upto relChainSpec)

/-- 'spinneylaw28.IsopCovers', WHERE WHAT IT READS IS OF BULK AT MOST 1048576: true; the input reads as it did. -/
def isopCoversUptoRow : OpenClaim := { program := "ytiojnjihbidbiaagreat", sum := "fb8ec978a5d788413a8804ea6359541191c4372d2344630f81fab39bbe79ee67", func := "spinney/spinneylaw28.IsopCovers", spec := "isopCovers", inPlace := ["sync/atomic.AddInt64", "sync/atomic.LoadUint64", "sync/atomic.CompareAndSwapUint64", "sync/atomic.StoreUint64"], unfollowed := true, recurses := true, apart := false, narrowed := true }
def IsopCoversUptoSaid : Prop := isopCoversUptoRow.holds Tryz.pinned (OpenSpec.upto isopCoversSpec)

/-- 'spinneylaw28.IsopPrimes', WHERE WHAT IT READS IS OF BULK AT MOST 1048576: true; the input reads as it did. -/
def isopPrimesUptoRow : OpenClaim := { program := "ytiojnjihbidbiaagreat", sum := "fb8ec978a5d788413a8804ea6359541191c4372d2344630f81fab39bbe79ee67", func := "spinney/spinneylaw28.IsopPrimes", spec := "isopPrimes", inPlace := ["sync/atomic.AddInt64", "sync/atomic.LoadUint64", "sync/atomic.CompareAndSwapUint64", "sync/atomic.StoreUint64"], unfollowed := true, recurses := true, apart := false, narrowed := true }
def IsopPrimesUptoSaid : Prop := isopPrimesUptoRow.holds Tryz.pinned (OpenSpec.upto isopPrimesSpec)

/-- 'spinneylaw28.IsopOwn', WHERE WHAT IT READS IS OF BULK AT MOST 1048576: true; the input reads as it did. -/
def isopOwnUptoRow : OpenClaim := { program := "ytiojnjihbidbiaagreat", sum := "fb8ec978a5d788413a8804ea6359541191c4372d2344630f81fab39bbe79ee67", func := "spinney/spinneylaw28.IsopOwn", spec := "isopOwn", inPlace := ["sync/atomic.AddInt64", "sync/atomic.LoadUint64", "sync/atomic.CompareAndSwapUint64", "sync/atomic.StoreUint64"], unfollowed := true, recurses := true, apart := false, narrowed := true }
def IsopOwnUptoSaid : Prop := isopOwnUptoRow.holds Tryz.pinned (OpenSpec.upto isopOwnSpec)

/-- 'spinneylaw28.IsopSums', WHERE WHAT IT READS IS OF BULK AT MOST 1048576: true; the input reads as it did. -/
def isopSumsUptoRow : OpenClaim := { program := "ytiojnjihbidbiaagreat", sum := "fb8ec978a5d788413a8804ea6359541191c4372d2344630f81fab39bbe79ee67", func := "spinney/spinneylaw28.IsopSums", spec := "isopSums", inPlace := ["sync/atomic.AddInt64", "sync/atomic.LoadUint64", "sync/atomic.CompareAndSwapUint64", "sync/atomic.StoreUint64"], unfollowed := true, recurses := true, apart := false, narrowed := true }
def IsopSumsUptoSaid : Prop := isopSumsUptoRow.holds Tryz.pinned (OpenSpec.upto isopSumsSpec)

/-- 'spinneylaw28.IsopRaw', WHERE WHAT IT READS IS OF BULK AT MOST 1048576: true; the input reads as it did. -/
def isopRawUptoRow : OpenClaim := { program := "ytiojnjihbidbiaagreat", sum := "fb8ec978a5d788413a8804ea6359541191c4372d2344630f81fab39bbe79ee67", func := "spinney/spinneylaw28.IsopRaw", spec := "isopRaw", inPlace := ["sync/atomic.AddInt64", "sync/atomic.LoadUint64", "sync/atomic.CompareAndSwapUint64", "sync/atomic.StoreUint64"], unfollowed := true, recurses := true, apart := false, narrowed := true }
def IsopRawUptoSaid : Prop := isopRawUptoRow.holds Tryz.pinned (OpenSpec.upto isopRawSpec)

/-- 'spinneylaw28.IsopBetween', WHERE WHAT IT READS IS OF BULK AT MOST 1048576: true; the input reads as it did. -/
def isopBetweenUptoRow : OpenClaim := { program := "ytiojnjihbidbiaagreat", sum := "fb8ec978a5d788413a8804ea6359541191c4372d2344630f81fab39bbe79ee67", func := "spinney/spinneylaw28.IsopBetween", spec := "isopBetween", inPlace := ["sync/atomic.AddInt64", "sync/atomic.LoadUint64", "sync/atomic.CompareAndSwapUint64", "sync/atomic.StoreUint64"], unfollowed := true, recurses := true, apart := false, narrowed := true }
def IsopBetweenUptoSaid : Prop := isopBetweenUptoRow.holds Tryz.pinned (OpenSpec.upto isopBetweenSpec)

/-- 'spinneylaw28.IsopCaresAll', WHERE WHAT IT READS IS OF BULK AT MOST 1048576: true; the input reads as it did. -/
def isopCaresAllUptoRow : OpenClaim := { program := "ytiojnjihbidbiaagreat", sum := "fb8ec978a5d788413a8804ea6359541191c4372d2344630f81fab39bbe79ee67", func := "spinney/spinneylaw28.IsopCaresAll", spec := "isopCaresAll", inPlace := ["sync/atomic.AddInt64", "sync/atomic.LoadUint64", "sync/atomic.CompareAndSwapUint64", "sync/atomic.StoreUint64"], unfollowed := true, recurses := true, apart := false, narrowed := true }
def IsopCaresAllUptoSaid : Prop := isopCaresAllUptoRow.holds Tryz.pinned (OpenSpec.upto isopCaresAllSpec)

/-- 'spinneylaw28.IsopCares', WHERE WHAT IT READS IS OF BULK AT MOST 1048576: true; the input reads as it did. -/
def isopCaresUptoRow : OpenClaim := { program := "ytiojnjihbidbiaagreat", sum := "fb8ec978a5d788413a8804ea6359541191c4372d2344630f81fab39bbe79ee67", func := "spinney/spinneylaw28.IsopCares", spec := "isopCares", inPlace := ["sync/atomic.AddInt64", "sync/atomic.LoadUint64", "sync/atomic.CompareAndSwapUint64", "sync/atomic.StoreUint64"], unfollowed := true, recurses := true, apart := false, narrowed := true }
def IsopCaresUptoSaid : Prop := isopCaresUptoRow.holds Tryz.pinned (OpenSpec.upto isopCaresSpec)

/-- 'spinneylaw23.ExprQuants', WHERE WHAT IT READS IS OF BULK AT MOST 1048576: true; the input reads as it did. -/
def exprQuantsUptoRow : OpenClaim := { program := "ytiojnjihbidbiaagreat", sum := "fb8ec978a5d788413a8804ea6359541191c4372d2344630f81fab39bbe79ee67", func := "spinney/spinneylaw23.ExprQuants", spec := "exprQuants", inPlace := ["sync/atomic.AddInt64", "sync/atomic.LoadUint64", "sync/atomic.CompareAndSwapUint64", "sync/atomic.StoreUint64"], unfollowed := true, recurses := true, apart := false, narrowed := true }
def ExprQuantsUptoSaid : Prop := exprQuantsUptoRow.holds Tryz.pinned (OpenSpec.upto exprQuantsSpec)

/-- 'spinneylaw23.ExprBuilds', WHERE WHAT IT READS IS OF BULK AT MOST 1048576: true; the input reads as it did. -/
def exprBuildsUptoRow : OpenClaim := { program := "ytiojnjihbidbiaagreat", sum := "fb8ec978a5d788413a8804ea6359541191c4372d2344630f81fab39bbe79ee67", func := "spinney/spinneylaw23.ExprBuilds", spec := "exprBuilds", inPlace := ["sync/atomic.AddInt64", "sync/atomic.LoadUint64", "sync/atomic.CompareAndSwapUint64", "sync/atomic.StoreUint64"], unfollowed := true, recurses := true, apart := false, narrowed := true }
def ExprBuildsUptoSaid : Prop := exprBuildsUptoRow.holds Tryz.pinned (OpenSpec.upto exprBuildsSpec)

end Rows
end Go.Proofs.YtiojnjihbidbiaaGreat
