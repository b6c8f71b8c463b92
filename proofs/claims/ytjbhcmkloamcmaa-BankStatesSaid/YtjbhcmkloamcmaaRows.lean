/-
  No cell of these rows narrows 'for every input' (looked for: loops, veiled, ifaces, maps, wideKeys, modest, calm, conditions, laid).
  DERIVED. THE GIVEN ROWS OF THIS SEAT. 7 by the template 'for every input the law returns true; each argument reads behind the call as it read before'; 0 by the template 'total and deterministic' (their statements: YtjbhcmkloamcmaaTotals.lean).
  GIVEN WITH THE SEED: the statements are not yours to turn. If you find one false, say at which input.
  Laid BY PROGRAM, IN A SANDBOX (cutbox-rows.mjs): the forced cells as the released guide's own fill.sh prints them over the translation 7158b5e377c6d3d4… (all of the seat's roots in one cut). By AI agents, Wed Nov 11 2026. No macro, syntax, notation, axiom, sorry.
-/
import Derived.Test.YtjbhcmkloamcmaaChecked
import GoSem.Claim
import GoSem.ClaimJoined
import GoSem.ClaimMapViews
import Derived.JoinedTies
import Derived.KernelRfl
namespace Go.Proofs.Ytjbhcmkloamcmaa
/- THE CELL 'sum', in the pinned program and in every row, IS THE sha256 OF THE DUMP (.gsa) THAT YtjbhcmkloamcmaaProg.lean LOADS. Nothing in Lean hashes anything: it is a label: what it is worth is what the hold of that sum in a sandbox is worth. -/
noncomputable def Try.pinned : Pinned := { name := "ytjbhcmkloamcmaa", sum := "7158b5e377c6d3d49fac6788f4b4a4e434277aa0166eb812a20148eddf8383e3", checked := Try.checked }
namespace Rows
def none {H : Type} : Left H := { results := [], args := [] }

/-- 'escapementlaw19.BankAnew': WHATEVER THE INPUT: true; the input reads as it did. -/
def bankAnewSpec : ChangeSpec := { name := "bankAnew", fn := fun _ => fun
  | [d1, d2, d3] => { results := [.lit (.bool true)], args := [d1, d2, d3] }
  | _ => none }
def bankAnewRow : OpenClaim := { program := "ytjbhcmkloamcmaa", sum := "7158b5e377c6d3d49fac6788f4b4a4e434277aa0166eb812a20148eddf8383e3", func := "escapement/escapementlaw19.BankAnew", spec := "bankAnew", inPlace := ["math/bits.Add64"], unfollowed := true, recurses := true, apart := false }
def BankAnewSaid : Prop := bankAnewRow.holds Try.pinned (OpenSpec.ofChange bankAnewSpec)

/-- ITS FALSE NEIGHBOUR: 'it returns false'. Refute it at one input. -/
def bankAnewWrong : ChangeSpec := { name := "bankAnew", fn := fun _ => fun
  | [d1, d2, d3] => { results := [.lit (.bool false)], args := [d1, d2, d3] }
  | _ => none }
def BankAnewWrongFalsely : Prop := bankAnewRow.holds Try.pinned (OpenSpec.ofChange bankAnewWrong)

/-- 'escapementlaw19.BankSteps': WHATEVER THE INPUT: true; the input reads as it did. -/
def bankStepsSpec : ChangeSpec := { name := "bankSteps", fn := fun _ => fun
  | [d1, d2] => { results := [.lit (.bool true)], args := [d1, d2] }
  | _ => none }
def bankStepsRow : OpenClaim := { program := "ytjbhcmkloamcmaa", sum := "7158b5e377c6d3d49fac6788f4b4a4e434277aa0166eb812a20148eddf8383e3", func := "escapement/escapementlaw19.BankSteps", spec := "bankSteps", inPlace := ["math/bits.Add64"], unfollowed := true, recurses := true, apart := false }
def BankStepsSaid : Prop := bankStepsRow.holds Try.pinned (OpenSpec.ofChange bankStepsSpec)

/-- ITS FALSE NEIGHBOUR: 'it returns false'. Refute it at one input. -/
def bankStepsWrong : ChangeSpec := { name := "bankSteps", fn := fun _ => fun
  | [d1, d2] => { results := [.lit (.bool false)], args := [d1, d2] }
  | _ => none }
def BankStepsWrongFalsely : Prop := bankStepsRow.holds Try.pinned (OpenSpec.ofChange bankStepsWrong)

/-- 'escapementlaw19.BankStates': WHATEVER THE INPUT: true; the input reads as it did. -/
def bankStatesSpec : ChangeSpec := { name := "bankStates", fn := fun _ => fun
  | [d1, d2] => { results := [.lit (.bool true)], args := [d1, d2] }
  | _ => none }
def bankStatesRow : OpenClaim := { program := "ytjbhcmkloamcmaa", sum := "7158b5e377c6d3d49fac6788f4b4a4e434277aa0166eb812a20148eddf8383e3", func := "escapement/escapementlaw19.BankStates", spec := "bankStates", inPlace := ["math/bits.Add64"], unfollowed := true, recurses := true, apart := false }
def BankStatesSaid : Prop := bankStatesRow.holds Try.pinned (OpenSpec.ofChange bankStatesSpec)

/-- ITS FALSE NEIGHBOUR: 'it returns false'. Refute it at one input. -/
def bankStatesWrong : ChangeSpec := { name := "bankStates", fn := fun _ => fun
  | [d1, d2] => { results := [.lit (.bool false)], args := [d1, d2] }
  | _ => none }
def BankStatesWrongFalsely : Prop := bankStatesRow.holds Try.pinned (OpenSpec.ofChange bankStatesWrong)

/-- 'escapementlaw19.BankMany': WHATEVER THE INPUT: true; the input reads as it did. -/
def bankManySpec : ChangeSpec := { name := "bankMany", fn := fun _ => fun
  | [d] => { results := [.lit (.bool true)], args := [d] }
  | _ => none }
def bankManyRow : OpenClaim := { program := "ytjbhcmkloamcmaa", sum := "7158b5e377c6d3d49fac6788f4b4a4e434277aa0166eb812a20148eddf8383e3", func := "escapement/escapementlaw19.BankMany", spec := "bankMany", inPlace := ["math/bits.Add64"], unfollowed := true, recurses := true, apart := false }
def BankManySaid : Prop := bankManyRow.holds Try.pinned (OpenSpec.ofChange bankManySpec)

/-- ITS FALSE NEIGHBOUR: 'it returns false'. Refute it at one input. -/
def bankManyWrong : ChangeSpec := { name := "bankMany", fn := fun _ => fun
  | [d] => { results := [.lit (.bool false)], args := [d] }
  | _ => none }
def BankManyWrongFalsely : Prop := bankManyRow.holds Try.pinned (OpenSpec.ofChange bankManyWrong)

/-- 'escapementlaw19.BankWhole': WHATEVER THE INPUT: true; the input reads as it did. -/
def bankWholeSpec : ChangeSpec := { name := "bankWhole", fn := fun _ => fun
  | [d1, d2, d3, d4, d5] => { results := [.lit (.bool true)], args := [d1, d2, d3, d4, d5] }
  | _ => none }
def bankWholeRow : OpenClaim := { program := "ytjbhcmkloamcmaa", sum := "7158b5e377c6d3d49fac6788f4b4a4e434277aa0166eb812a20148eddf8383e3", func := "escapement/escapementlaw19.BankWhole", spec := "bankWhole", inPlace := ["math/bits.Add64"], unfollowed := true, recurses := true, apart := false }
def BankWholeSaid : Prop := bankWholeRow.holds Try.pinned (OpenSpec.ofChange bankWholeSpec)

/-- ITS FALSE NEIGHBOUR: 'it returns false'. Refute it at one input. -/
def bankWholeWrong : ChangeSpec := { name := "bankWhole", fn := fun _ => fun
  | [d1, d2, d3, d4, d5] => { results := [.lit (.bool false)], args := [d1, d2, d3, d4, d5] }
  | _ => none }
def BankWholeWrongFalsely : Prop := bankWholeRow.holds Try.pinned (OpenSpec.ofChange bankWholeWrong)

/-- 'escapementlaw19.BankPlays': WHATEVER THE INPUT: true; the input reads as it did. -/
def bankPlaysSpec : ChangeSpec := { name := "bankPlays", fn := fun _ => fun
  | [d] => { results := [.lit (.bool true)], args := [d] }
  | _ => none }
def bankPlaysRow : OpenClaim := { program := "ytjbhcmkloamcmaa", sum := "7158b5e377c6d3d49fac6788f4b4a4e434277aa0166eb812a20148eddf8383e3", func := "escapement/escapementlaw19.BankPlays", spec := "bankPlays", inPlace := ["math/bits.Add64"], unfollowed := true, recurses := true, apart := false }
def BankPlaysSaid : Prop := bankPlaysRow.holds Try.pinned (OpenSpec.ofChange bankPlaysSpec)

/-- ITS FALSE NEIGHBOUR: 'it returns false'. Refute it at one input. -/
def bankPlaysWrong : ChangeSpec := { name := "bankPlays", fn := fun _ => fun
  | [d] => { results := [.lit (.bool false)], args := [d] }
  | _ => none }
def BankPlaysWrongFalsely : Prop := bankPlaysRow.holds Try.pinned (OpenSpec.ofChange bankPlaysWrong)

/-- 'escapementlaw19.BankNil': WHATEVER THE INPUT: true; the input reads as it did. -/
def bankNilSpec : ChangeSpec := { name := "bankNil", fn := fun _ => fun
  | [d1, d2] => { results := [.lit (.bool true)], args := [d1, d2] }
  | _ => none }
def bankNilRow : OpenClaim := { program := "ytjbhcmkloamcmaa", sum := "7158b5e377c6d3d49fac6788f4b4a4e434277aa0166eb812a20148eddf8383e3", func := "escapement/escapementlaw19.BankNil", spec := "bankNil", inPlace := ["math/bits.Add64"], unfollowed := true, recurses := true, apart := false }
def BankNilSaid : Prop := bankNilRow.holds Try.pinned (OpenSpec.ofChange bankNilSpec)

/-- ITS FALSE NEIGHBOUR: 'it returns false'. Refute it at one input. -/
def bankNilWrong : ChangeSpec := { name := "bankNil", fn := fun _ => fun
  | [d1, d2] => { results := [.lit (.bool false)], args := [d1, d2] }
  | _ => none }
def BankNilWrongFalsely : Prop := bankNilRow.holds Try.pinned (OpenSpec.ofChange bankNilWrong)

/- THE SECOND FORM. 'bulk': how many values and letters a reading holds, each counted each time it is reached (what is shared counts as often as it is met; a slice's spare places count too). A statement '..UptoSaid' is the law's where the arguments, and the package variables that the reading takes, are together of bulk at most 1048576: NARROWER than '..Said'. Prove '..Said' where nothing that the law and all that it calls make is longer than what came in: it says more and counts as full. Else prove '..UptoSaid'. A law counts once. -/
mutual
def uptoBulk {H : Type} : DataW H → Nat
  | .lit (.string bytes) => bytes.length + 1
  | .lit _ => 1
  | .nil => 1
  | .ptr d => uptoBulk d + 1
  | .slice elems spare => uptoBulkAll elems + uptoBulkAll spare + 1
  | .agg parts => uptoBulkAll parts + 1
  | .iface _ d => uptoBulk d + 1
  | .map entries => uptoBulkEntries entries + 1
  | .held _ => 1
def uptoBulkAll {H : Type} : List (DataW H) → Nat
  | [] => 0
  | d :: r => uptoBulk d + uptoBulkAll r
def uptoBulkEntries {H : Type} : List (Lit × DataW H) → Nat
  | [] => 0
  | x :: r => uptoBulkEntry x + uptoBulkEntries r
def uptoBulkEntry {H : Type} : Lit × DataW H → Nat
  | (.string bytes, d) => bytes.length + uptoBulk d + 1
  | (_, d) => uptoBulk d + 1
 end
def uptoSmall : (H : Type) → List (DataW H) → Bool := fun _ ds => decide (uptoBulkAll ds ≤ 1048576)
def OpenSpec.upto (s : _root_.Go.ChangeSpec) : _root_.Go.OpenSpec := { _root_.Go.OpenSpec.ofChange s with cond := some uptoSmall }

/-- 'escapementlaw19.BankAnew', WHERE WHAT IT READS IS OF BULK AT MOST 1048576: true; the input reads as it did. -/
def bankAnewUptoRow : OpenClaim := { program := "ytjbhcmkloamcmaa", sum := "7158b5e377c6d3d49fac6788f4b4a4e434277aa0166eb812a20148eddf8383e3", func := "escapement/escapementlaw19.BankAnew", spec := "bankAnew", inPlace := ["math/bits.Add64"], unfollowed := true, recurses := true, apart := false, narrowed := true }
def BankAnewUptoSaid : Prop := bankAnewUptoRow.holds Try.pinned (OpenSpec.upto bankAnewSpec)

/-- 'escapementlaw19.BankSteps', WHERE WHAT IT READS IS OF BULK AT MOST 1048576: true; the input reads as it did. -/
def bankStepsUptoRow : OpenClaim := { program := "ytjbhcmkloamcmaa", sum := "7158b5e377c6d3d49fac6788f4b4a4e434277aa0166eb812a20148eddf8383e3", func := "escapement/escapementlaw19.BankSteps", spec := "bankSteps", inPlace := ["math/bits.Add64"], unfollowed := true, recurses := true, apart := false, narrowed := true }
def BankStepsUptoSaid : Prop := bankStepsUptoRow.holds Try.pinned (OpenSpec.upto bankStepsSpec)

/-- 'escapementlaw19.BankStates', WHERE WHAT IT READS IS OF BULK AT MOST 1048576: true; the input reads as it did. -/
def bankStatesUptoRow : OpenClaim := { program := "ytjbhcmkloamcmaa", sum := "7158b5e377c6d3d49fac6788f4b4a4e434277aa0166eb812a20148eddf8383e3", func := "escapement/escapementlaw19.BankStates", spec := "bankStates", inPlace := ["math/bits.Add64"], unfollowed := true, recurses := true, apart := false, narrowed := true }
def BankStatesUptoSaid : Prop := bankStatesUptoRow.holds Try.pinned (OpenSpec.upto bankStatesSpec)

/-- 'escapementlaw19.BankMany', WHERE WHAT IT READS IS OF BULK AT MOST 1048576: true; the input reads as it did. -/
def bankManyUptoRow : OpenClaim := { program := "ytjbhcmkloamcmaa", sum := "7158b5e377c6d3d49fac6788f4b4a4e434277aa0166eb812a20148eddf8383e3", func := "escapement/escapementlaw19.BankMany", spec := "bankMany", inPlace := ["math/bits.Add64"], unfollowed := true, recurses := true, apart := false, narrowed := true }
def BankManyUptoSaid : Prop := bankManyUptoRow.holds Try.pinned (OpenSpec.upto bankManySpec)

/-- 'escapementlaw19.BankWhole', WHERE WHAT IT READS IS OF BULK AT MOST 1048576: true; the input reads as it did. -/
def bankWholeUptoRow : OpenClaim := { program := "ytjbhcmkloamcmaa", sum := "7158b5e377c6d3d49fac6788f4b4a4e434277aa0166eb812a20148eddf8383e3", func := "escapement/escapementlaw19.BankWhole", spec := "bankWhole", inPlace := ["math/bits.Add64"], unfollowed := true, recurses := true, apart := false, narrowed := true }
def BankWholeUptoSaid : Prop := bankWholeUptoRow.holds Try.pinned (OpenSpec.upto bankWholeSpec)

/-- 'escapementlaw19.BankPlays', WHERE WHAT IT READS IS OF BULK AT MOST 1048576: true; the input reads as it did. -/
def bankPlaysUptoRow : OpenClaim := { program := "ytjbhcmkloamcmaa", sum := "7158b5e377c6d3d49fac6788f4b4a4e434277aa0166eb812a20148eddf8383e3", func := "escapement/escapementlaw19.BankPlays", spec := "bankPlays", inPlace := ["math/bits.Add64"], unfollowed := true, recurses := true, apart := false, narrowed := true }
def BankPlaysUptoSaid : Prop := bankPlaysUptoRow.holds Try.pinned (OpenSpec.upto bankPlaysSpec)

/-- 'escapementlaw19.BankNil', WHERE WHAT IT READS IS OF BULK AT MOST 1048576: true; the input reads as it did. -/
def bankNilUptoRow : OpenClaim := { program := "ytjbhcmkloamcmaa", sum := "7158b5e377c6d3d49fac6788f4b4a4e434277aa0166eb812a20148eddf8383e3", func := "escapement/escapementlaw19.BankNil", spec := "bankNil", inPlace := ["math/bits.Add64"], unfollowed := true, recurses := true, apart := false, narrowed := true }
def BankNilUptoSaid : Prop := bankNilUptoRow.holds Try.pinned (OpenSpec.upto bankNilSpec)

end Rows
end Go.Proofs.Ytjbhcmkloamcmaa
