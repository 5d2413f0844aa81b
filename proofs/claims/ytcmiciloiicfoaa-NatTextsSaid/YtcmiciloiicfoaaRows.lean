/-
  No cell of these rows narrows 'for every input' (looked for: loops, veiled, ifaces, maps, wideKeys, modest, calm, conditions, laid).
  DERIVED. THE GIVEN ROWS OF THIS SEAT. 10 by the template 'for every input the law returns true; each argument reads behind the call as it read before'; 0 by the template 'total and deterministic' (their statements: YtcmiciloiicfoaaTotals.lean).
  GIVEN WITH THE SEED: the statements are not yours to turn. If you find one false, say at which input.
  Laid BY PROGRAM, IN A SANDBOX (cutbox-rows.mjs): the forced cells as the released guide's own fill.sh prints them over the translation 2ee7270b48f43a6d… (all of the seat's roots in one cut). By AI agents, Wed Nov 11 2026. No macro, syntax, notation, axiom, sorry.
-/
import Derived.Test.YtcmiciloiicfoaaChecked
import GoSem.Claim
import GoSem.ClaimJoined
import GoSem.ClaimMapViews
import Derived.JoinedTies
import Derived.KernelRfl
namespace Go.Proofs.Ytcmiciloiicfoaa
/- THE CELL 'sum', in the pinned program and in every row, IS THE sha256 OF THE DUMP (.gsa) THAT YtcmiciloiicfoaaProg.lean LOADS. Nothing in Lean hashes anything: it is a label: what it is worth is what the hold of that sum in a sandbox is worth. -/
noncomputable def Try.pinned : Pinned := { name := "ytcmiciloiicfoaa", sum := "2ee7270b48f43a6d03afec8ba6fd4090a9a2f930995f15536fef2e9f92e1390c", checked := Try.checked }
namespace Rows
def none {H : Type} : Left H := { results := [], args := [] }

/-- 'dspcompilerlaw35.FactorBestIsLeast': WHATEVER THE INPUT: true; the input reads as it did. -/
def factorBestIsLeastSpec : ChangeSpec := { name := "factorBestIsLeast", fn := fun _ => fun
  | [d1, d2, d3] => { results := [.lit (.bool true)], args := [d1, d2, d3] }
  | _ => none }
def factorBestIsLeastRow : OpenClaim := { program := "ytcmiciloiicfoaa", sum := "2ee7270b48f43a6d03afec8ba6fd4090a9a2f930995f15536fef2e9f92e1390c", func := "dspcompiler/dspcompilerlaw35.FactorBestIsLeast", spec := "factorBestIsLeast", unfollowed := true, recurses := true, apart := false }
def FactorBestIsLeastSaid : Prop := factorBestIsLeastRow.holds Try.pinned (OpenSpec.ofChange factorBestIsLeastSpec)

/-- ITS FALSE NEIGHBOUR: 'it returns false'. Refute it at one input. -/
def factorBestIsLeastWrong : ChangeSpec := { name := "factorBestIsLeast", fn := fun _ => fun
  | [d1, d2, d3] => { results := [.lit (.bool false)], args := [d1, d2, d3] }
  | _ => none }
def FactorBestIsLeastWrongFalsely : Prop := factorBestIsLeastRow.holds Try.pinned (OpenSpec.ofChange factorBestIsLeastWrong)

/-- 'dspcompilerlaw35.FactorPlans': WHATEVER THE INPUT: true; the input reads as it did. -/
def factorPlansSpec : ChangeSpec := { name := "factorPlans", fn := fun _ => fun
  | [d1, d2] => { results := [.lit (.bool true)], args := [d1, d2] }
  | _ => none }
def factorPlansRow : OpenClaim := { program := "ytcmiciloiicfoaa", sum := "2ee7270b48f43a6d03afec8ba6fd4090a9a2f930995f15536fef2e9f92e1390c", func := "dspcompiler/dspcompilerlaw35.FactorPlans", spec := "factorPlans", unfollowed := true, recurses := true, apart := false }
def FactorPlansSaid : Prop := factorPlansRow.holds Try.pinned (OpenSpec.ofChange factorPlansSpec)

/-- ITS FALSE NEIGHBOUR: 'it returns false'. Refute it at one input. -/
def factorPlansWrong : ChangeSpec := { name := "factorPlans", fn := fun _ => fun
  | [d1, d2] => { results := [.lit (.bool false)], args := [d1, d2] }
  | _ => none }
def FactorPlansWrongFalsely : Prop := factorPlansRow.holds Try.pinned (OpenSpec.ofChange factorPlansWrong)

/-- 'dspcompilerlaw01.NatDivides': WHATEVER THE INPUT: true; the input reads as it did. -/
def natDividesSpec : ChangeSpec := { name := "natDivides", fn := fun _ => fun
  | [d1, d2] => { results := [.lit (.bool true)], args := [d1, d2] }
  | _ => none }
def natDividesRow : OpenClaim := { program := "ytcmiciloiicfoaa", sum := "2ee7270b48f43a6d03afec8ba6fd4090a9a2f930995f15536fef2e9f92e1390c", func := "dspcompiler/dspcompilerlaw01.NatDivides", spec := "natDivides", apart := false }
def NatDividesSaid : Prop := natDividesRow.holds Try.pinned (OpenSpec.ofChange natDividesSpec)

/-- ITS FALSE NEIGHBOUR: 'it returns false'. Refute it at one input. -/
def natDividesWrong : ChangeSpec := { name := "natDivides", fn := fun _ => fun
  | [d1, d2] => { results := [.lit (.bool false)], args := [d1, d2] }
  | _ => none }
def NatDividesWrongFalsely : Prop := natDividesRow.holds Try.pinned (OpenSpec.ofChange natDividesWrong)

/-- 'dspcompilerlaw01.NatFresh': WHATEVER THE INPUT: true; the input reads as it did. -/
def natFreshSpec : ChangeSpec := { name := "natFresh", fn := fun _ => fun
  | [d1, d2] => { results := [.lit (.bool true)], args := [d1, d2] }
  | _ => none }
def natFreshRow : OpenClaim := { program := "ytcmiciloiicfoaa", sum := "2ee7270b48f43a6d03afec8ba6fd4090a9a2f930995f15536fef2e9f92e1390c", func := "dspcompiler/dspcompilerlaw01.NatFresh", spec := "natFresh", apart := false }
def NatFreshSaid : Prop := natFreshRow.holds Try.pinned (OpenSpec.ofChange natFreshSpec)

/-- ITS FALSE NEIGHBOUR: 'it returns false'. Refute it at one input. -/
def natFreshWrong : ChangeSpec := { name := "natFresh", fn := fun _ => fun
  | [d1, d2] => { results := [.lit (.bool false)], args := [d1, d2] }
  | _ => none }
def NatFreshWrongFalsely : Prop := natFreshRow.holds Try.pinned (OpenSpec.ofChange natFreshWrong)

/-- 'dspcompilerlaw01.NatRoots': WHATEVER THE INPUT: true; the input reads as it did. -/
def natRootsSpec : ChangeSpec := { name := "natRoots", fn := fun _ => fun
  | [d1, d2] => { results := [.lit (.bool true)], args := [d1, d2] }
  | _ => none }
def natRootsRow : OpenClaim := { program := "ytcmiciloiicfoaa", sum := "2ee7270b48f43a6d03afec8ba6fd4090a9a2f930995f15536fef2e9f92e1390c", func := "dspcompiler/dspcompilerlaw01.NatRoots", spec := "natRoots", apart := false }
def NatRootsSaid : Prop := natRootsRow.holds Try.pinned (OpenSpec.ofChange natRootsSpec)

/-- ITS FALSE NEIGHBOUR: 'it returns false'. Refute it at one input. -/
def natRootsWrong : ChangeSpec := { name := "natRoots", fn := fun _ => fun
  | [d1, d2] => { results := [.lit (.bool false)], args := [d1, d2] }
  | _ => none }
def NatRootsWrongFalsely : Prop := natRootsRow.holds Try.pinned (OpenSpec.ofChange natRootsWrong)

/-- 'dspcompilerlaw01.NatRing': WHATEVER THE INPUT: true; the input reads as it did. -/
def natRingSpec : ChangeSpec := { name := "natRing", fn := fun _ => fun
  | [d1, d2, d3] => { results := [.lit (.bool true)], args := [d1, d2, d3] }
  | _ => none }
def natRingRow : OpenClaim := { program := "ytcmiciloiicfoaa", sum := "2ee7270b48f43a6d03afec8ba6fd4090a9a2f930995f15536fef2e9f92e1390c", func := "dspcompiler/dspcompilerlaw01.NatRing", spec := "natRing", apart := false }
def NatRingSaid : Prop := natRingRow.holds Try.pinned (OpenSpec.ofChange natRingSpec)

/-- ITS FALSE NEIGHBOUR: 'it returns false'. Refute it at one input. -/
def natRingWrong : ChangeSpec := { name := "natRing", fn := fun _ => fun
  | [d1, d2, d3] => { results := [.lit (.bool false)], args := [d1, d2, d3] }
  | _ => none }
def NatRingWrongFalsely : Prop := natRingRow.holds Try.pinned (OpenSpec.ofChange natRingWrong)

/-- 'dspcompilerlaw35.FactorPlansAgree': WHATEVER THE INPUT: true; the input reads as it did. -/
def factorPlansAgreeSpec : ChangeSpec := { name := "factorPlansAgree", fn := fun _ => fun
  | [d1, d2, d3, d4] => { results := [.lit (.bool true)], args := [d1, d2, d3, d4] }
  | _ => none }
def factorPlansAgreeRow : OpenClaim := { program := "ytcmiciloiicfoaa", sum := "2ee7270b48f43a6d03afec8ba6fd4090a9a2f930995f15536fef2e9f92e1390c", func := "dspcompiler/dspcompilerlaw35.FactorPlansAgree", spec := "factorPlansAgree", unfollowed := true, recurses := true, apart := false }
def FactorPlansAgreeSaid : Prop := factorPlansAgreeRow.holds Try.pinned (OpenSpec.ofChange factorPlansAgreeSpec)

/-- ITS FALSE NEIGHBOUR: 'it returns false'. Refute it at one input. -/
def factorPlansAgreeWrong : ChangeSpec := { name := "factorPlansAgree", fn := fun _ => fun
  | [d1, d2, d3, d4] => { results := [.lit (.bool false)], args := [d1, d2, d3, d4] }
  | _ => none }
def FactorPlansAgreeWrongFalsely : Prop := factorPlansAgreeRow.holds Try.pinned (OpenSpec.ofChange factorPlansAgreeWrong)

/-- 'dspcompilerlaw01.NatActs': WHATEVER THE INPUT: true; the input reads as it did. -/
def natActsSpec : ChangeSpec := { name := "natActs", fn := fun _ => fun
  | [d1, d2] => { results := [.lit (.bool true)], args := [d1, d2] }
  | _ => none }
def natActsRow : OpenClaim := { program := "ytcmiciloiicfoaa", sum := "2ee7270b48f43a6d03afec8ba6fd4090a9a2f930995f15536fef2e9f92e1390c", func := "dspcompiler/dspcompilerlaw01.NatActs", spec := "natActs", apart := false }
def NatActsSaid : Prop := natActsRow.holds Try.pinned (OpenSpec.ofChange natActsSpec)

/-- ITS FALSE NEIGHBOUR: 'it returns false'. Refute it at one input. -/
def natActsWrong : ChangeSpec := { name := "natActs", fn := fun _ => fun
  | [d1, d2] => { results := [.lit (.bool false)], args := [d1, d2] }
  | _ => none }
def NatActsWrongFalsely : Prop := natActsRow.holds Try.pinned (OpenSpec.ofChange natActsWrong)

/-- 'dspcompilerlaw02.IntegerOf': WHATEVER THE INPUT: true; the input reads as it did. -/
def integerOfSpec : ChangeSpec := { name := "integerOf", fn := fun _ => fun
  | [d1, d2] => { results := [.lit (.bool true)], args := [d1, d2] }
  | _ => none }
def integerOfRow : OpenClaim := { program := "ytcmiciloiicfoaa", sum := "2ee7270b48f43a6d03afec8ba6fd4090a9a2f930995f15536fef2e9f92e1390c", func := "dspcompiler/dspcompilerlaw02.IntegerOf", spec := "integerOf", apart := false }
def IntegerOfSaid : Prop := integerOfRow.holds Try.pinned (OpenSpec.ofChange integerOfSpec)

/-- ITS FALSE NEIGHBOUR: 'it returns false'. Refute it at one input. -/
def integerOfWrong : ChangeSpec := { name := "integerOf", fn := fun _ => fun
  | [d1, d2] => { results := [.lit (.bool false)], args := [d1, d2] }
  | _ => none }
def IntegerOfWrongFalsely : Prop := integerOfRow.holds Try.pinned (OpenSpec.ofChange integerOfWrong)

/-- 'dspcompilerlaw01.NatTexts': WHATEVER THE INPUT: true; the input reads as it did. -/
def natTextsSpec : ChangeSpec := { name := "natTexts", fn := fun _ => fun
  | [d1, d2] => { results := [.lit (.bool true)], args := [d1, d2] }
  | _ => none }
def natTextsRow : OpenClaim := { program := "ytcmiciloiicfoaa", sum := "2ee7270b48f43a6d03afec8ba6fd4090a9a2f930995f15536fef2e9f92e1390c", func := "dspcompiler/dspcompilerlaw01.NatTexts", spec := "natTexts", apart := false }
def NatTextsSaid : Prop := natTextsRow.holds Try.pinned (OpenSpec.ofChange natTextsSpec)

/-- ITS FALSE NEIGHBOUR: 'it returns false'. Refute it at one input. -/
def natTextsWrong : ChangeSpec := { name := "natTexts", fn := fun _ => fun
  | [d1, d2] => { results := [.lit (.bool false)], args := [d1, d2] }
  | _ => none }
def NatTextsWrongFalsely : Prop := natTextsRow.holds Try.pinned (OpenSpec.ofChange natTextsWrong)

/- THE SECOND FORM. 'bulk': how many values and letters a reading holds, each counted each time it is reached (what is shared counts as often as it is met; a slice's spare places count too). A statement '..UptoSaid' is the law's where the arguments, and the package variables that the reading takes, are together of bulk at most 1048576: NARROWER than '..Said'. Prove '..Said' where nothing that the law and all that it calls make is longer than what came in: it says more and counts as full. Else prove '..UptoSaid'. A law counts once. -/
mutual
def uptoBulk {H : Type} : DataW H → Nat
  | .lit (.string bytes) => bytes.length + 1
  | .lit _ => 1
  | .nil => 1
  | .ptr d => uptoBulk d + 1
  | .slice elems spare => uptoBulkAll elems + uptoBulkAll spare + 1
  | .agg parts => uptoBulkAll parts + 1
  | .iface _ d => uptoBulk d + 1
  | .map entries => uptoBulkEntries entries + 1
  | .held _ => 1
def uptoBulkAll {H : Type} : List (DataW H) → Nat
  | [] => 0
  | d :: r => uptoBulk d + uptoBulkAll r
def uptoBulkEntries {H : Type} : List (Lit × DataW H) → Nat
  | [] => 0
  | x :: r => uptoBulkEntry x + uptoBulkEntries r
def uptoBulkEntry {H : Type} : Lit × DataW H → Nat
  | (.string bytes, d) => bytes.length + uptoBulk d + 1
  | (_, d) => uptoBulk d + 1
 end
def uptoSmall : (H : Type) → List (DataW H) → Bool := fun _ ds => decide (uptoBulkAll ds ≤ 1048576)
def OpenSpec.upto (s : _root_.Go.ChangeSpec) : _root_.Go.OpenSpec := { _root_.Go.OpenSpec.ofChange s with cond := some uptoSmall }

/-- 'dspcompilerlaw35.FactorBestIsLeast', WHERE WHAT IT READS IS OF BULK AT MOST 1048576: true; the input reads as it did. -/
def factorBestIsLeastUptoRow : OpenClaim := { program := "ytcmiciloiicfoaa", sum := "2ee7270b48f43a6d03afec8ba6fd4090a9a2f930995f15536fef2e9f92e1390c", func := "dspcompiler/dspcompilerlaw35.FactorBestIsLeast", spec := "factorBestIsLeast", unfollowed := true, recurses := true, apart := false, narrowed := true }
def FactorBestIsLeastUptoSaid : Prop := factorBestIsLeastUptoRow.holds Try.pinned (OpenSpec.upto factorBestIsLeastSpec)

/-- 'dspcompilerlaw35.FactorPlans', WHERE WHAT IT READS IS OF BULK AT MOST 1048576: true; the input reads as it did. -/
def factorPlansUptoRow : OpenClaim := { program := "ytcmiciloiicfoaa", sum := "2ee7270b48f43a6d03afec8ba6fd4090a9a2f930995f15536fef2e9f92e1390c", func := "dspcompiler/dspcompilerlaw35.FactorPlans", spec := "factorPlans", unfollowed := true, recurses := true, apart := false, narrowed := true }
def FactorPlansUptoSaid : Prop := factorPlansUptoRow.holds Try.pinned (OpenSpec.upto factorPlansSpec)

/-- 'dspcompilerlaw01.NatDivides', WHERE WHAT IT READS IS OF BULK AT MOST 1048576: true; the input reads as it did. -/
def natDividesUptoRow : OpenClaim := { program := "ytcmiciloiicfoaa", sum := "2ee7270b48f43a6d03afec8ba6fd4090a9a2f930995f15536fef2e9f92e1390c", func := "dspcompiler/dspcompilerlaw01.NatDivides", spec := "natDivides", apart := false, narrowed := true }
def NatDividesUptoSaid : Prop := natDividesUptoRow.holds Try.pinned (OpenSpec.upto natDividesSpec)

/-- 'dspcompilerlaw01.NatFresh', WHERE WHAT IT READS IS OF BULK AT MOST 1048576: true; the input reads as it did. -/
def natFreshUptoRow : OpenClaim := { program := "ytcmiciloiicfoaa", sum := "2ee7270b48f43a6d03afec8ba6fd4090a9a2f930995f15536fef2e9f92e1390c", func := "dspcompiler/dspcompilerlaw01.NatFresh", spec := "natFresh", apart := false, narrowed := true }
def NatFreshUptoSaid : Prop := natFreshUptoRow.holds Try.pinned (OpenSpec.upto natFreshSpec)

/-- 'dspcompilerlaw01.NatRoots', WHERE WHAT IT READS IS OF BULK AT MOST 1048576: true; the input reads as it did. -/
def natRootsUptoRow : OpenClaim := { program := "ytcmiciloiicfoaa", sum := "2ee7270b48f43a6d03afec8ba6fd4090a9a2f930995f15536fef2e9f92e1390c", func := "dspcompiler/dspcompilerlaw01.NatRoots", spec := "natRoots", apart := false, narrowed := true }
def NatRootsUptoSaid : Prop := natRootsUptoRow.holds Try.pinned (OpenSpec.upto natRootsSpec)

/-- 'dspcompilerlaw01.NatRing', WHERE WHAT IT READS IS OF BULK AT MOST 1048576: true; the input reads as it did. -/
def natRingUptoRow : OpenClaim := { program := "ytcmiciloiicfoaa", sum := "2ee7270b48f43a6d03afec8ba6fd4090a9a2f930995f15536fef2e9f92e1390c", func := "dspcompiler/dspcompilerlaw01.NatRing", spec := "natRing", apart := false, narrowed := true }
def NatRingUptoSaid : Prop := natRingUptoRow.holds Try.pinned (OpenSpec.upto natRingSpec)

/-- 'dspcompilerlaw35.FactorPlansAgree', WHERE WHAT IT READS IS OF BULK AT MOST 1048576: true; the input reads as it did. -/
def factorPlansAgreeUptoRow : OpenClaim := { program := "ytcmiciloiicfoaa", sum := "2ee7270b48f43a6d03afec8ba6fd4090a9a2f930995f15536fef2e9f92e1390c", func := "dspcompiler/dspcompilerlaw35.FactorPlansAgree", spec := "factorPlansAgree", unfollowed := true, recurses := true, apart := false, narrowed := true }
def FactorPlansAgreeUptoSaid : Prop := factorPlansAgreeUptoRow.holds Try.pinned (OpenSpec.upto factorPlansAgreeSpec)

/-- 'dspcompilerlaw01.NatActs', WHERE WHAT IT READS IS OF BULK AT MOST 1048576: true; the input reads as it did. -/
def natActsUptoRow : OpenClaim := { program := "ytcmiciloiicfoaa", sum := "2ee7270b48f43a6d03afec8ba6fd4090a9a2f930995f15536fef2e9f92e1390c", func := "dspcompiler/dspcompilerlaw01.NatActs", spec := "natActs", apart := false, narrowed := true }
def NatActsUptoSaid : Prop := natActsUptoRow.holds Try.pinned (OpenSpec.upto natActsSpec)

/-- 'dspcompilerlaw02.IntegerOf', WHERE WHAT IT READS IS OF BULK AT MOST 1048576: true; the input reads as it did. -/
def integerOfUptoRow : OpenClaim := { program := "ytcmiciloiicfoaa", sum := "2ee7270b48f43a6d03afec8ba6fd4090a9a2f930995f15536fef2e9f92e1390c", func := "dspcompiler/dspcompilerlaw02.IntegerOf", spec := "integerOf", apart := false, narrowed := true }
def IntegerOfUptoSaid : Prop := integerOfUptoRow.holds Try.pinned (OpenSpec.upto integerOfSpec)

/-- 'dspcompilerlaw01.NatTexts', WHERE WHAT IT READS IS OF BULK AT MOST 1048576: true; the input reads as it did. -/
def natTextsUptoRow : OpenClaim := { program := "ytcmiciloiicfoaa", sum := "2ee7270b48f43a6d03afec8ba6fd4090a9a2f930995f15536fef2e9f92e1390c", func := "dspcompiler/dspcompilerlaw01.NatTexts", spec := "natTexts", apart := false, narrowed := true }
def NatTextsUptoSaid : Prop := natTextsUptoRow.holds Try.pinned (OpenSpec.upto natTextsSpec)

end Rows
end Go.Proofs.Ytcmiciloiicfoaa
