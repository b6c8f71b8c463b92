/-
  No cell of these rows narrows 'for every input' (looked for: loops, veiled, ifaces, maps, wideKeys, modest, calm, conditions, laid).
  DERIVED. THE GIVEN ROWS OF THIS SEAT. 10 by the template 'for every input the law returns true; each argument reads behind the call as it read before'; 0 by the template 'total and deterministic' (their statements: YtgdponkeceonkaaTotals.lean).
  GIVEN WITH THE SEED: the statements are not yours to turn. If you find one false, say at which input.
  Laid BY PROGRAM, IN A SANDBOX (cutbox-rows.mjs): the forced cells as the released guide's own fill.sh prints them over the translation bf5eedeccb71984e… (all of the seat's roots in one cut). By AI agents, Wed Nov 11 2026. No macro, syntax, notation, axiom, sorry.
-/
import Derived.Test.YtgdponkeceonkaaChecked
import GoSem.Claim
import GoSem.ClaimJoined
import GoSem.ClaimMapViews
import Derived.JoinedTies
import Derived.KernelRfl
namespace Go.Proofs.Ytgdponkeceonkaa
/- THE CELL 'sum', in the pinned program and in every row, IS THE sha256 OF THE DUMP (.gsa) THAT YtgdponkeceonkaaProg.lean LOADS. Nothing in Lean hashes anything: it is a label: what it is worth is what the hold of that sum in a sandbox is worth. -/
noncomputable def Try.pinned : Pinned := { name := "ytgdponkeceonkaa", sum := "bf5eedeccb71984ebb47d81ca602b6e9836a994113629b6eddb6161abbd3e69e", checked := Try.checked }
namespace Rows
def none {H : Type} : Left H := { results := [], args := [] }

/-- 'escapementlaw07.ClockParts': WHATEVER THE INPUT: true; the input reads as it did. -/
def clockPartsSpec : ChangeSpec := { name := "clockParts", fn := fun _ => fun
  | [d1, d2, d3, d4] => { results := [.lit (.bool true)], args := [d1, d2, d3, d4] }
  | _ => none }
def clockPartsRow : OpenClaim := { program := "ytgdponkeceonkaa", sum := "bf5eedeccb71984ebb47d81ca602b6e9836a994113629b6eddb6161abbd3e69e", func := "escapement/escapementlaw07.ClockParts", spec := "clockParts", apart := false }
def ClockPartsSaid : Prop := clockPartsRow.holds Try.pinned (OpenSpec.ofChange clockPartsSpec)

/-- ITS FALSE NEIGHBOUR: 'it returns false'. Refute it at one input. -/
def clockPartsWrong : ChangeSpec := { name := "clockParts", fn := fun _ => fun
  | [d1, d2, d3, d4] => { results := [.lit (.bool false)], args := [d1, d2, d3, d4] }
  | _ => none }
def ClockPartsWrongFalsely : Prop := clockPartsRow.holds Try.pinned (OpenSpec.ofChange clockPartsWrong)

/-- 'escapementlaw07.ClockPlain': WHATEVER THE INPUT: true; the input reads as it did. -/
def clockPlainSpec : ChangeSpec := { name := "clockPlain", fn := fun _ => fun
  | [d1, d2, d3, d4] => { results := [.lit (.bool true)], args := [d1, d2, d3, d4] }
  | _ => none }
def clockPlainRow : OpenClaim := { program := "ytgdponkeceonkaa", sum := "bf5eedeccb71984ebb47d81ca602b6e9836a994113629b6eddb6161abbd3e69e", func := "escapement/escapementlaw07.ClockPlain", spec := "clockPlain", apart := false }
def ClockPlainSaid : Prop := clockPlainRow.holds Try.pinned (OpenSpec.ofChange clockPlainSpec)

/-- ITS FALSE NEIGHBOUR: 'it returns false'. Refute it at one input. -/
def clockPlainWrong : ChangeSpec := { name := "clockPlain", fn := fun _ => fun
  | [d1, d2, d3, d4] => { results := [.lit (.bool false)], args := [d1, d2, d3, d4] }
  | _ => none }
def ClockPlainWrongFalsely : Prop := clockPlainRow.holds Try.pinned (OpenSpec.ofChange clockPlainWrong)

/-- 'escapementlaw02.CrcLinear': WHATEVER THE INPUT: true; the input reads as it did. -/
def crcLinearSpec : ChangeSpec := { name := "crcLinear", fn := fun _ => fun
  | [d1, d2, d3] => { results := [.lit (.bool true)], args := [d1, d2, d3] }
  | _ => none }
def crcLinearRow : OpenClaim := { program := "ytgdponkeceonkaa", sum := "bf5eedeccb71984ebb47d81ca602b6e9836a994113629b6eddb6161abbd3e69e", func := "escapement/escapementlaw02.CrcLinear", spec := "crcLinear", apart := false }
def CrcLinearSaid : Prop := crcLinearRow.holds Try.pinned (OpenSpec.ofChange crcLinearSpec)

/-- ITS FALSE NEIGHBOUR: 'it returns false'. Refute it at one input. -/
def crcLinearWrong : ChangeSpec := { name := "crcLinear", fn := fun _ => fun
  | [d1, d2, d3] => { results := [.lit (.bool false)], args := [d1, d2, d3] }
  | _ => none }
def CrcLinearWrongFalsely : Prop := crcLinearRow.holds Try.pinned (OpenSpec.ofChange crcLinearWrong)

/-- 'escapementlaw07.ClockShows': WHATEVER THE INPUT: true; the input reads as it did. -/
def clockShowsSpec : ChangeSpec := { name := "clockShows", fn := fun _ => fun
  | [d1, d2, d3] => { results := [.lit (.bool true)], args := [d1, d2, d3] }
  | _ => none }
def clockShowsRow : OpenClaim := { program := "ytgdponkeceonkaa", sum := "bf5eedeccb71984ebb47d81ca602b6e9836a994113629b6eddb6161abbd3e69e", func := "escapement/escapementlaw07.ClockShows", spec := "clockShows", recurses := true, apart := false }
def ClockShowsSaid : Prop := clockShowsRow.holds Try.pinned (OpenSpec.ofChange clockShowsSpec)

/-- ITS FALSE NEIGHBOUR: 'it returns false'. Refute it at one input. -/
def clockShowsWrong : ChangeSpec := { name := "clockShows", fn := fun _ => fun
  | [d1, d2, d3] => { results := [.lit (.bool false)], args := [d1, d2, d3] }
  | _ => none }
def ClockShowsWrongFalsely : Prop := clockShowsRow.holds Try.pinned (OpenSpec.ofChange clockShowsWrong)

/-- 'escapementlaw07.ClockNil': WHATEVER THE INPUT: true; the input reads as it did. -/
def clockNilSpec : ChangeSpec := { name := "clockNil", fn := fun _ => fun
  | [d] => { results := [.lit (.bool true)], args := [d] }
  | _ => none }
def clockNilRow : OpenClaim := { program := "ytgdponkeceonkaa", sum := "bf5eedeccb71984ebb47d81ca602b6e9836a994113629b6eddb6161abbd3e69e", func := "escapement/escapementlaw07.ClockNil", spec := "clockNil", apart := false }
def ClockNilSaid : Prop := clockNilRow.holds Try.pinned (OpenSpec.ofChange clockNilSpec)

/-- ITS FALSE NEIGHBOUR: 'it returns false'. Refute it at one input. -/
def clockNilWrong : ChangeSpec := { name := "clockNil", fn := fun _ => fun
  | [d] => { results := [.lit (.bool false)], args := [d] }
  | _ => none }
def ClockNilWrongFalsely : Prop := clockNilRow.holds Try.pinned (OpenSpec.ofChange clockNilWrong)

/-- 'escapementlaw02.CrcSums': WHATEVER THE INPUT: true; the input reads as it did. -/
def crcSumsSpec : ChangeSpec := { name := "crcSums", fn := fun _ => fun
  | [d] => { results := [.lit (.bool true)], args := [d] }
  | _ => none }
def crcSumsRow : OpenClaim := { program := "ytgdponkeceonkaa", sum := "bf5eedeccb71984ebb47d81ca602b6e9836a994113629b6eddb6161abbd3e69e", func := "escapement/escapementlaw02.CrcSums", spec := "crcSums", apart := false }
def CrcSumsSaid : Prop := crcSumsRow.holds Try.pinned (OpenSpec.ofChange crcSumsSpec)

/-- ITS FALSE NEIGHBOUR: 'it returns false'. Refute it at one input. -/
def crcSumsWrong : ChangeSpec := { name := "crcSums", fn := fun _ => fun
  | [d] => { results := [.lit (.bool false)], args := [d] }
  | _ => none }
def CrcSumsWrongFalsely : Prop := crcSumsRow.holds Try.pinned (OpenSpec.ofChange crcSumsWrong)

/-- 'escapementlaw02.CrcBack': WHATEVER THE INPUT: true; the input reads as it did. -/
def crcBackSpec : ChangeSpec := { name := "crcBack", fn := fun _ => fun
  | [d] => { results := [.lit (.bool true)], args := [d] }
  | _ => none }
def crcBackRow : OpenClaim := { program := "ytgdponkeceonkaa", sum := "bf5eedeccb71984ebb47d81ca602b6e9836a994113629b6eddb6161abbd3e69e", func := "escapement/escapementlaw02.CrcBack", spec := "crcBack", apart := false }
def CrcBackSaid : Prop := crcBackRow.holds Try.pinned (OpenSpec.ofChange crcBackSpec)

/-- ITS FALSE NEIGHBOUR: 'it returns false'. Refute it at one input. -/
def crcBackWrong : ChangeSpec := { name := "crcBack", fn := fun _ => fun
  | [d] => { results := [.lit (.bool false)], args := [d] }
  | _ => none }
def CrcBackWrongFalsely : Prop := crcBackRow.holds Try.pinned (OpenSpec.ofChange crcBackWrong)

/-- 'escapementlaw02.CrcBursts': WHATEVER THE INPUT: true; the input reads as it did. -/
def crcBurstsSpec : ChangeSpec := { name := "crcBursts", fn := fun _ => fun
  | [d1, d2, d3] => { results := [.lit (.bool true)], args := [d1, d2, d3] }
  | _ => none }
def crcBurstsRow : OpenClaim := { program := "ytgdponkeceonkaa", sum := "bf5eedeccb71984ebb47d81ca602b6e9836a994113629b6eddb6161abbd3e69e", func := "escapement/escapementlaw02.CrcBursts", spec := "crcBursts", apart := false }
def CrcBurstsSaid : Prop := crcBurstsRow.holds Try.pinned (OpenSpec.ofChange crcBurstsSpec)

/-- ITS FALSE NEIGHBOUR: 'it returns false'. Refute it at one input. -/
def crcBurstsWrong : ChangeSpec := { name := "crcBursts", fn := fun _ => fun
  | [d1, d2, d3] => { results := [.lit (.bool false)], args := [d1, d2, d3] }
  | _ => none }
def CrcBurstsWrongFalsely : Prop := crcBurstsRow.holds Try.pinned (OpenSpec.ofChange crcBurstsWrong)

/-- 'escapementlaw02.CrcRests': WHATEVER THE INPUT: true; the input reads as it did. -/
def crcRestsSpec : ChangeSpec := { name := "crcRests", fn := fun _ => fun
  | [d] => { results := [.lit (.bool true)], args := [d] }
  | _ => none }
def crcRestsRow : OpenClaim := { program := "ytgdponkeceonkaa", sum := "bf5eedeccb71984ebb47d81ca602b6e9836a994113629b6eddb6161abbd3e69e", func := "escapement/escapementlaw02.CrcRests", spec := "crcRests", apart := false }
def CrcRestsSaid : Prop := crcRestsRow.holds Try.pinned (OpenSpec.ofChange crcRestsSpec)

/-- ITS FALSE NEIGHBOUR: 'it returns false'. Refute it at one input. -/
def crcRestsWrong : ChangeSpec := { name := "crcRests", fn := fun _ => fun
  | [d] => { results := [.lit (.bool false)], args := [d] }
  | _ => none }
def CrcRestsWrongFalsely : Prop := crcRestsRow.holds Try.pinned (OpenSpec.ofChange crcRestsWrong)

/-- 'escapementlaw02.CrcParts': WHATEVER THE INPUT: true; the input reads as it did. -/
def crcPartsSpec : ChangeSpec := { name := "crcParts", fn := fun _ => fun
  | [d1, d2, d3] => { results := [.lit (.bool true)], args := [d1, d2, d3] }
  | _ => none }
def crcPartsRow : OpenClaim := { program := "ytgdponkeceonkaa", sum := "bf5eedeccb71984ebb47d81ca602b6e9836a994113629b6eddb6161abbd3e69e", func := "escapement/escapementlaw02.CrcParts", spec := "crcParts", apart := false }
def CrcPartsSaid : Prop := crcPartsRow.holds Try.pinned (OpenSpec.ofChange crcPartsSpec)

/-- ITS FALSE NEIGHBOUR: 'it returns false'. Refute it at one input. -/
def crcPartsWrong : ChangeSpec := { name := "crcParts", fn := fun _ => fun
  | [d1, d2, d3] => { results := [.lit (.bool false)], args := [d1, d2, d3] }
  | _ => none }
def CrcPartsWrongFalsely : Prop := crcPartsRow.holds Try.pinned (OpenSpec.ofChange crcPartsWrong)

/- THE SECOND FORM. 'bulk': how many values and letters a reading holds, each counted each time it is reached (what is shared counts as often as it is met; a slice's spare places count too). A statement '..UptoSaid' is the law's where the arguments, and the package variables that the reading takes, are together of bulk at most 1048576: NARROWER than '..Said'. Prove '..Said' where nothing that the law and all that it calls make is longer than what came in: it says more and counts as full. Else prove '..UptoSaid'. A law counts once. -/
mutual
def uptoBulk {H : Type} : DataW H → Nat
  | .lit (.string bytes) => bytes.length + 1
  | .lit _ => 1
  | .nil => 1
  | .ptr d => uptoBulk d + 1
  | .slice elems spare => uptoBulkAll elems + uptoBulkAll spare + 1
  | .agg parts => uptoBulkAll parts + 1
  | .iface _ d => uptoBulk d + 1
  | .map entries => uptoBulkEntries entries + 1
  | .held _ => 1
def uptoBulkAll {H : Type} : List (DataW H) → Nat
  | [] => 0
  | d :: r => uptoBulk d + uptoBulkAll r
def uptoBulkEntries {H : Type} : List (Lit × DataW H) → Nat
  | [] => 0
  | x :: r => uptoBulkEntry x + uptoBulkEntries r
def uptoBulkEntry {H : Type} : Lit × DataW H → Nat
  | (.string bytes, d) => bytes.length + uptoBulk d + 1
  | (_, d) => uptoBulk d + 1
 end
def uptoSmall : (H : Type) → List (DataW H) → Bool := fun _ ds => decide (uptoBulkAll ds ≤ 1048576)
def OpenSpec.upto (s : _root_.Go.ChangeSpec) : _root_.Go.OpenSpec := { _root_.Go.OpenSpec.ofChange s with cond := some uptoSmall }

/-- 'escapementlaw07.ClockParts', WHERE WHAT IT READS IS OF BULK AT MOST 1048576: true; the input reads as it did. -/
def clockPartsUptoRow : OpenClaim := { program := "ytgdponkeceonkaa", sum := "bf5eedeccb71984ebb47d81ca602b6e9836a994113629b6eddb6161abbd3e69e", func := "escapement/escapementlaw07.ClockParts", spec := "clockParts", apart := false, narrowed := true }
def ClockPartsUptoSaid : Prop := clockPartsUptoRow.holds Try.pinned (OpenSpec.upto clockPartsSpec)

/-- 'escapementlaw07.ClockPlain', WHERE WHAT IT READS IS OF BULK AT MOST 1048576: true; the input reads as it did. -/
def clockPlainUptoRow : OpenClaim := { program := "ytgdponkeceonkaa", sum := "bf5eedeccb71984ebb47d81ca602b6e9836a994113629b6eddb6161abbd3e69e", func := "escapement/escapementlaw07.ClockPlain", spec := "clockPlain", apart := false, narrowed := true }
def ClockPlainUptoSaid : Prop := clockPlainUptoRow.holds Try.pinned (OpenSpec.upto clockPlainSpec)

/-- 'escapementlaw02.CrcLinear', WHERE WHAT IT READS IS OF BULK AT MOST 1048576: true; the input reads as it did. -/
def crcLinearUptoRow : OpenClaim := { program := "ytgdponkeceonkaa", sum := "bf5eedeccb71984ebb47d81ca602b6e9836a994113629b6eddb6161abbd3e69e", func := "escapement/escapementlaw02.CrcLinear", spec := "crcLinear", apart := false, narrowed := true }
def CrcLinearUptoSaid : Prop := crcLinearUptoRow.holds Try.pinned (OpenSpec.upto crcLinearSpec)

/-- 'escapementlaw07.ClockShows', WHERE WHAT IT READS IS OF BULK AT MOST 1048576: true; the input reads as it did. -/
def clockShowsUptoRow : OpenClaim := { program := "ytgdponkeceonkaa", sum := "bf5eedeccb71984ebb47d81ca602b6e9836a994113629b6eddb6161abbd3e69e", func := "escapement/escapementlaw07.ClockShows", spec := "clockShows", recurses := true, apart := false, narrowed := true }
def ClockShowsUptoSaid : Prop := clockShowsUptoRow.holds Try.pinned (OpenSpec.upto clockShowsSpec)

/-- 'escapementlaw07.ClockNil', WHERE WHAT IT READS IS OF BULK AT MOST 1048576: true; the input reads as it did. -/
def clockNilUptoRow : OpenClaim := { program := "ytgdponkeceonkaa", sum := "bf5eedeccb71984ebb47d81ca602b6e9836a994113629b6eddb6161abbd3e69e", func := "escapement/escapementlaw07.ClockNil", spec := "clockNil", apart := false, narrowed := true }
def ClockNilUptoSaid : Prop := clockNilUptoRow.holds Try.pinned (OpenSpec.upto clockNilSpec)

/-- 'escapementlaw02.CrcSums', WHERE WHAT IT READS IS OF BULK AT MOST 1048576: true; the input reads as it did. -/
def crcSumsUptoRow : OpenClaim := { program := "ytgdponkeceonkaa", sum := "bf5eedeccb71984ebb47d81ca602b6e9836a994113629b6eddb6161abbd3e69e", func := "escapement/escapementlaw02.CrcSums", spec := "crcSums", apart := false, narrowed := true }
def CrcSumsUptoSaid : Prop := crcSumsUptoRow.holds Try.pinned (OpenSpec.upto crcSumsSpec)

/-- 'escapementlaw02.CrcBack', WHERE WHAT IT READS IS OF BULK AT MOST 1048576: true; the input reads as it did. -/
def crcBackUptoRow : OpenClaim := { program := "ytgdponkeceonkaa", sum := "bf5eedeccb71984ebb47d81ca602b6e9836a994113629b6eddb6161abbd3e69e", func := "escapement/escapementlaw02.CrcBack", spec := "crcBack", apart := false, narrowed := true }
def CrcBackUptoSaid : Prop := crcBackUptoRow.holds Try.pinned (OpenSpec.upto crcBackSpec)

/-- 'escapementlaw02.CrcBursts', WHERE WHAT IT READS IS OF BULK AT MOST 1048576: true; the input reads as it did. -/
def crcBurstsUptoRow : OpenClaim := { program := "ytgdponkeceonkaa", sum := "bf5eedeccb71984ebb47d81ca602b6e9836a994113629b6eddb6161abbd3e69e", func := "escapement/escapementlaw02.CrcBursts", spec := "crcBursts", apart := false, narrowed := true }
def CrcBurstsUptoSaid : Prop := crcBurstsUptoRow.holds Try.pinned (OpenSpec.upto crcBurstsSpec)

/-- 'escapementlaw02.CrcRests', WHERE WHAT IT READS IS OF BULK AT MOST 1048576: true; the input reads as it did. -/
def crcRestsUptoRow : OpenClaim := { program := "ytgdponkeceonkaa", sum := "bf5eedeccb71984ebb47d81ca602b6e9836a994113629b6eddb6161abbd3e69e", func := "escapement/escapementlaw02.CrcRests", spec := "crcRests", apart := false, narrowed := true }
def CrcRestsUptoSaid : Prop := crcRestsUptoRow.holds Try.pinned (OpenSpec.upto crcRestsSpec)

/-- 'escapementlaw02.CrcParts', WHERE WHAT IT READS IS OF BULK AT MOST 1048576: true; the input reads as it did. -/
def crcPartsUptoRow : OpenClaim := { program := "ytgdponkeceonkaa", sum := "bf5eedeccb71984ebb47d81ca602b6e9836a994113629b6eddb6161abbd3e69e", func := "escapement/escapementlaw02.CrcParts", spec := "crcParts", apart := false, narrowed := true }
def CrcPartsUptoSaid : Prop := crcPartsUptoRow.holds Try.pinned (OpenSpec.upto crcPartsSpec)

end Rows
end Go.Proofs.Ytgdponkeceonkaa
