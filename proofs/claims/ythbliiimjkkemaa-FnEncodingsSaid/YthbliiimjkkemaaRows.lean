/-
  No cell of these rows narrows 'for every input' (looked for: loops, veiled, ifaces, maps, wideKeys, modest, calm, conditions, laid).
  DERIVED. THE GIVEN ROWS OF THIS SEAT. 13 by the template 'for every input the law returns true; each argument reads behind the call as it read before'; 0 by the template 'total and deterministic' (their statements: YthbliiimjkkemaaTotals.lean).
  GIVEN WITH THE SEED: the statements are not yours to turn. If you find one false, say at which input.
  Laid BY PROGRAM, IN A SANDBOX (cutbox-rows.mjs): the forced cells as the released guide's own fill.sh prints them over the translation cf03ce3b1610404b… (all of the seat's roots in one cut). By AI agents, Wed Nov 11 2026. No macro, syntax, notation, axiom, sorry.
-/
import Derived.Test.YthbliiimjkkemaaChecked
import GoSem.Claim
import GoSem.ClaimJoined
import GoSem.ClaimMapViews
import Derived.JoinedTies
import Derived.KernelRfl
namespace Go.Proofs.Ythbliiimjkkemaa
/- THE CELL 'sum', in the pinned program and in every row, IS THE sha256 OF THE DUMP (.gsa) THAT YthbliiimjkkemaaProg.lean LOADS. Nothing in Lean hashes anything: it is a label: what it is worth is what the hold of that sum in a sandbox is worth. -/
noncomputable def Try.pinned : Pinned := { name := "ythbliiimjkkemaa", sum := "cf03ce3b1610404bc853a900382c8b95d3a65eeeae49ba93be70a30eade3ba85", checked := Try.checked }
namespace Rows
def none {H : Type} : Left H := { results := [], args := [] }

/-- 'laws.FnExactConstants': WHATEVER THE INPUT: true; the input reads as it did. -/
def fnExactConstantsSpec : ChangeSpec := { name := "fnExactConstants", fn := fun _ => fun
  | [] => { results := [.lit (.bool true)], args := [] }
  | _ => none }
def fnExactConstantsRow : OpenClaim := { program := "ythbliiimjkkemaa", sum := "cf03ce3b1610404bc853a900382c8b95d3a65eeeae49ba93be70a30eade3ba85", func := "loop.example/g01917/laws.FnExactConstants", spec := "fnExactConstants", apart := false }
def FnExactConstantsSaid : Prop := fnExactConstantsRow.holds Try.pinned (OpenSpec.ofChange fnExactConstantsSpec)

/-- ITS FALSE NEIGHBOUR: 'it returns false'. Refute it at one input. -/
def fnExactConstantsWrong : ChangeSpec := { name := "fnExactConstants", fn := fun _ => fun
  | [] => { results := [.lit (.bool false)], args := [] }
  | _ => none }
def FnExactConstantsWrongFalsely : Prop := fnExactConstantsRow.holds Try.pinned (OpenSpec.ofChange fnExactConstantsWrong)

/-- 'laws.FnExactDecodeValue': WHATEVER THE INPUT: true; the input reads as it did. -/
def fnExactDecodeValueSpec : ChangeSpec := { name := "fnExactDecodeValue", fn := fun _ => fun
  | [d1, d2] => { results := [.lit (.bool true)], args := [d1, d2] }
  | _ => none }
def fnExactDecodeValueRow : OpenClaim := { program := "ythbliiimjkkemaa", sum := "cf03ce3b1610404bc853a900382c8b95d3a65eeeae49ba93be70a30eade3ba85", func := "loop.example/g01917/laws.FnExactDecodeValue", spec := "fnExactDecodeValue", apart := false }
def FnExactDecodeValueSaid : Prop := fnExactDecodeValueRow.holds Try.pinned (OpenSpec.ofChange fnExactDecodeValueSpec)

/-- ITS FALSE NEIGHBOUR: 'it returns false'. Refute it at one input. -/
def fnExactDecodeValueWrong : ChangeSpec := { name := "fnExactDecodeValue", fn := fun _ => fun
  | [d1, d2] => { results := [.lit (.bool false)], args := [d1, d2] }
  | _ => none }
def FnExactDecodeValueWrongFalsely : Prop := fnExactDecodeValueRow.holds Try.pinned (OpenSpec.ofChange fnExactDecodeValueWrong)

/-- 'laws.FnExactEncodeValue': WHATEVER THE INPUT: true; the input reads as it did. -/
def fnExactEncodeValueSpec : ChangeSpec := { name := "fnExactEncodeValue", fn := fun _ => fun
  | [d] => { results := [.lit (.bool true)], args := [d] }
  | _ => none }
def fnExactEncodeValueRow : OpenClaim := { program := "ythbliiimjkkemaa", sum := "cf03ce3b1610404bc853a900382c8b95d3a65eeeae49ba93be70a30eade3ba85", func := "loop.example/g01917/laws.FnExactEncodeValue", spec := "fnExactEncodeValue", apart := false }
def FnExactEncodeValueSaid : Prop := fnExactEncodeValueRow.holds Try.pinned (OpenSpec.ofChange fnExactEncodeValueSpec)

/-- ITS FALSE NEIGHBOUR: 'it returns false'. Refute it at one input. -/
def fnExactEncodeValueWrong : ChangeSpec := { name := "fnExactEncodeValue", fn := fun _ => fun
  | [d] => { results := [.lit (.bool false)], args := [d] }
  | _ => none }
def FnExactEncodeValueWrongFalsely : Prop := fnExactEncodeValueRow.holds Try.pinned (OpenSpec.ofChange fnExactEncodeValueWrong)

/-- 'laws.FnExactEncodeHex': WHATEVER THE INPUT: true; the input reads as it did. -/
def fnExactEncodeHexSpec : ChangeSpec := { name := "fnExactEncodeHex", fn := fun _ => fun
  | [d] => { results := [.lit (.bool true)], args := [d] }
  | _ => none }
def fnExactEncodeHexRow : OpenClaim := { program := "ythbliiimjkkemaa", sum := "cf03ce3b1610404bc853a900382c8b95d3a65eeeae49ba93be70a30eade3ba85", func := "loop.example/g01917/laws.FnExactEncodeHex", spec := "fnExactEncodeHex", apart := false }
def FnExactEncodeHexSaid : Prop := fnExactEncodeHexRow.holds Try.pinned (OpenSpec.ofChange fnExactEncodeHexSpec)

/-- ITS FALSE NEIGHBOUR: 'it returns false'. Refute it at one input. -/
def fnExactEncodeHexWrong : ChangeSpec := { name := "fnExactEncodeHex", fn := fun _ => fun
  | [d] => { results := [.lit (.bool false)], args := [d] }
  | _ => none }
def FnExactEncodeHexWrongFalsely : Prop := fnExactEncodeHexRow.holds Try.pinned (OpenSpec.ofChange fnExactEncodeHexWrong)

/-- 'laws.FnExactDecodeFixed': WHATEVER THE INPUT: true; the input reads as it did. -/
def fnExactDecodeFixedSpec : ChangeSpec := { name := "fnExactDecodeFixed", fn := fun _ => fun
  | [d1, d2] => { results := [.lit (.bool true)], args := [d1, d2] }
  | _ => none }
def fnExactDecodeFixedRow : OpenClaim := { program := "ythbliiimjkkemaa", sum := "cf03ce3b1610404bc853a900382c8b95d3a65eeeae49ba93be70a30eade3ba85", func := "loop.example/g01917/laws.FnExactDecodeFixed", spec := "fnExactDecodeFixed", apart := false }
def FnExactDecodeFixedSaid : Prop := fnExactDecodeFixedRow.holds Try.pinned (OpenSpec.ofChange fnExactDecodeFixedSpec)

/-- ITS FALSE NEIGHBOUR: 'it returns false'. Refute it at one input. -/
def fnExactDecodeFixedWrong : ChangeSpec := { name := "fnExactDecodeFixed", fn := fun _ => fun
  | [d1, d2] => { results := [.lit (.bool false)], args := [d1, d2] }
  | _ => none }
def FnExactDecodeFixedWrongFalsely : Prop := fnExactDecodeFixedRow.holds Try.pinned (OpenSpec.ofChange fnExactDecodeFixedWrong)

/-- 'laws.FnExactIsValidName': WHATEVER THE INPUT: true; the input reads as it did. -/
def fnExactIsValidNameSpec : ChangeSpec := { name := "fnExactIsValidName", fn := fun _ => fun
  | [d] => { results := [.lit (.bool true)], args := [d] }
  | _ => none }
def fnExactIsValidNameRow : OpenClaim := { program := "ythbliiimjkkemaa", sum := "cf03ce3b1610404bc853a900382c8b95d3a65eeeae49ba93be70a30eade3ba85", func := "loop.example/g01917/laws.FnExactIsValidName", spec := "fnExactIsValidName", apart := false }
def FnExactIsValidNameSaid : Prop := fnExactIsValidNameRow.holds Try.pinned (OpenSpec.ofChange fnExactIsValidNameSpec)

/-- ITS FALSE NEIGHBOUR: 'it returns false'. Refute it at one input. -/
def fnExactIsValidNameWrong : ChangeSpec := { name := "fnExactIsValidName", fn := fun _ => fun
  | [d] => { results := [.lit (.bool false)], args := [d] }
  | _ => none }
def FnExactIsValidNameWrongFalsely : Prop := fnExactIsValidNameRow.holds Try.pinned (OpenSpec.ofChange fnExactIsValidNameWrong)

/-- 'laws.FnExactEncodeVarint': WHATEVER THE INPUT: true; the input reads as it did. -/
def fnExactEncodeVarintSpec : ChangeSpec := { name := "fnExactEncodeVarint", fn := fun _ => fun
  | [d] => { results := [.lit (.bool true)], args := [d] }
  | _ => none }
def fnExactEncodeVarintRow : OpenClaim := { program := "ythbliiimjkkemaa", sum := "cf03ce3b1610404bc853a900382c8b95d3a65eeeae49ba93be70a30eade3ba85", func := "loop.example/g01917/laws.FnExactEncodeVarint", spec := "fnExactEncodeVarint", apart := false }
def FnExactEncodeVarintSaid : Prop := fnExactEncodeVarintRow.holds Try.pinned (OpenSpec.ofChange fnExactEncodeVarintSpec)

/-- ITS FALSE NEIGHBOUR: 'it returns false'. Refute it at one input. -/
def fnExactEncodeVarintWrong : ChangeSpec := { name := "fnExactEncodeVarint", fn := fun _ => fun
  | [d] => { results := [.lit (.bool false)], args := [d] }
  | _ => none }
def FnExactEncodeVarintWrongFalsely : Prop := fnExactEncodeVarintRow.holds Try.pinned (OpenSpec.ofChange fnExactEncodeVarintWrong)

/-- 'laws.FnExactEncodeFixed': WHATEVER THE INPUT: true; the input reads as it did. -/
def fnExactEncodeFixedSpec : ChangeSpec := { name := "fnExactEncodeFixed", fn := fun _ => fun
  | [d1, d2] => { results := [.lit (.bool true)], args := [d1, d2] }
  | _ => none }
def fnExactEncodeFixedRow : OpenClaim := { program := "ythbliiimjkkemaa", sum := "cf03ce3b1610404bc853a900382c8b95d3a65eeeae49ba93be70a30eade3ba85", func := "loop.example/g01917/laws.FnExactEncodeFixed", spec := "fnExactEncodeFixed", apart := false }
def FnExactEncodeFixedSaid : Prop := fnExactEncodeFixedRow.holds Try.pinned (OpenSpec.ofChange fnExactEncodeFixedSpec)

/-- ITS FALSE NEIGHBOUR: 'it returns false'. Refute it at one input. -/
def fnExactEncodeFixedWrong : ChangeSpec := { name := "fnExactEncodeFixed", fn := fun _ => fun
  | [d1, d2] => { results := [.lit (.bool false)], args := [d1, d2] }
  | _ => none }
def FnExactEncodeFixedWrongFalsely : Prop := fnExactEncodeFixedRow.holds Try.pinned (OpenSpec.ofChange fnExactEncodeFixedWrong)

/-- 'laws.FnExactDecodeVarint': WHATEVER THE INPUT: true; the input reads as it did. -/
def fnExactDecodeVarintSpec : ChangeSpec := { name := "fnExactDecodeVarint", fn := fun _ => fun
  | [d] => { results := [.lit (.bool true)], args := [d] }
  | _ => none }
def fnExactDecodeVarintRow : OpenClaim := { program := "ythbliiimjkkemaa", sum := "cf03ce3b1610404bc853a900382c8b95d3a65eeeae49ba93be70a30eade3ba85", func := "loop.example/g01917/laws.FnExactDecodeVarint", spec := "fnExactDecodeVarint", apart := false }
def FnExactDecodeVarintSaid : Prop := fnExactDecodeVarintRow.holds Try.pinned (OpenSpec.ofChange fnExactDecodeVarintSpec)

/-- ITS FALSE NEIGHBOUR: 'it returns false'. Refute it at one input. -/
def fnExactDecodeVarintWrong : ChangeSpec := { name := "fnExactDecodeVarint", fn := fun _ => fun
  | [d] => { results := [.lit (.bool false)], args := [d] }
  | _ => none }
def FnExactDecodeVarintWrongFalsely : Prop := fnExactDecodeVarintRow.holds Try.pinned (OpenSpec.ofChange fnExactDecodeVarintWrong)

/-- 'laws.FnExactFormatInt': WHATEVER THE INPUT: true; the input reads as it did. -/
def fnExactFormatIntSpec : ChangeSpec := { name := "fnExactFormatInt", fn := fun _ => fun
  | [d] => { results := [.lit (.bool true)], args := [d] }
  | _ => none }
def fnExactFormatIntRow : OpenClaim := { program := "ythbliiimjkkemaa", sum := "cf03ce3b1610404bc853a900382c8b95d3a65eeeae49ba93be70a30eade3ba85", func := "loop.example/g01917/laws.FnExactFormatInt", spec := "fnExactFormatInt", apart := false }
def FnExactFormatIntSaid : Prop := fnExactFormatIntRow.holds Try.pinned (OpenSpec.ofChange fnExactFormatIntSpec)

/-- ITS FALSE NEIGHBOUR: 'it returns false'. Refute it at one input. -/
def fnExactFormatIntWrong : ChangeSpec := { name := "fnExactFormatInt", fn := fun _ => fun
  | [d] => { results := [.lit (.bool false)], args := [d] }
  | _ => none }
def FnExactFormatIntWrongFalsely : Prop := fnExactFormatIntRow.holds Try.pinned (OpenSpec.ofChange fnExactFormatIntWrong)

/-- 'laws.FnExactDecodeHex': WHATEVER THE INPUT: true; the input reads as it did. -/
def fnExactDecodeHexSpec : ChangeSpec := { name := "fnExactDecodeHex", fn := fun _ => fun
  | [d] => { results := [.lit (.bool true)], args := [d] }
  | _ => none }
def fnExactDecodeHexRow : OpenClaim := { program := "ythbliiimjkkemaa", sum := "cf03ce3b1610404bc853a900382c8b95d3a65eeeae49ba93be70a30eade3ba85", func := "loop.example/g01917/laws.FnExactDecodeHex", spec := "fnExactDecodeHex", apart := false }
def FnExactDecodeHexSaid : Prop := fnExactDecodeHexRow.holds Try.pinned (OpenSpec.ofChange fnExactDecodeHexSpec)

/-- ITS FALSE NEIGHBOUR: 'it returns false'. Refute it at one input. -/
def fnExactDecodeHexWrong : ChangeSpec := { name := "fnExactDecodeHex", fn := fun _ => fun
  | [d] => { results := [.lit (.bool false)], args := [d] }
  | _ => none }
def FnExactDecodeHexWrongFalsely : Prop := fnExactDecodeHexRow.holds Try.pinned (OpenSpec.ofChange fnExactDecodeHexWrong)

/-- 'laws.FnExactParseInt': WHATEVER THE INPUT: true; the input reads as it did. -/
def fnExactParseIntSpec : ChangeSpec := { name := "fnExactParseInt", fn := fun _ => fun
  | [d] => { results := [.lit (.bool true)], args := [d] }
  | _ => none }
def fnExactParseIntRow : OpenClaim := { program := "ythbliiimjkkemaa", sum := "cf03ce3b1610404bc853a900382c8b95d3a65eeeae49ba93be70a30eade3ba85", func := "loop.example/g01917/laws.FnExactParseInt", spec := "fnExactParseInt", apart := false }
def FnExactParseIntSaid : Prop := fnExactParseIntRow.holds Try.pinned (OpenSpec.ofChange fnExactParseIntSpec)

/-- ITS FALSE NEIGHBOUR: 'it returns false'. Refute it at one input. -/
def fnExactParseIntWrong : ChangeSpec := { name := "fnExactParseInt", fn := fun _ => fun
  | [d] => { results := [.lit (.bool false)], args := [d] }
  | _ => none }
def FnExactParseIntWrongFalsely : Prop := fnExactParseIntRow.holds Try.pinned (OpenSpec.ofChange fnExactParseIntWrong)

/-- 'laws.FnEncodings': WHATEVER THE INPUT: true; the input reads as it did. -/
def fnEncodingsSpec : ChangeSpec := { name := "fnEncodings", fn := fun _ => fun
  | [d] => { results := [.lit (.bool true)], args := [d] }
  | _ => none }
def fnEncodingsRow : OpenClaim := { program := "ythbliiimjkkemaa", sum := "cf03ce3b1610404bc853a900382c8b95d3a65eeeae49ba93be70a30eade3ba85", func := "loop.example/g01917/laws.FnEncodings", spec := "fnEncodings", apart := false }
def FnEncodingsSaid : Prop := fnEncodingsRow.holds Try.pinned (OpenSpec.ofChange fnEncodingsSpec)

/-- ITS FALSE NEIGHBOUR: 'it returns false'. Refute it at one input. -/
def fnEncodingsWrong : ChangeSpec := { name := "fnEncodings", fn := fun _ => fun
  | [d] => { results := [.lit (.bool false)], args := [d] }
  | _ => none }
def FnEncodingsWrongFalsely : Prop := fnEncodingsRow.holds Try.pinned (OpenSpec.ofChange fnEncodingsWrong)

/- THE SECOND FORM. 'bulk': how many values and letters a reading holds, each counted each time it is reached (what is shared counts as often as it is met; a slice's spare places count too). A statement '..UptoSaid' is the law's where the arguments, and the package variables that the reading takes, are together of bulk at most 1048576: NARROWER than '..Said'. Prove '..Said' where nothing that the law and all that it calls make is longer than what came in: it says more and counts as full. Else prove '..UptoSaid'. A law counts once. -/
mutual
def uptoBulk {H : Type} : DataW H → Nat
  | .lit (.string bytes) => bytes.length + 1
  | .lit _ => 1
  | .nil => 1
  | .ptr d => uptoBulk d + 1
  | .slice elems spare => uptoBulkAll elems + uptoBulkAll spare + 1
  | .agg parts => uptoBulkAll parts + 1
  | .iface _ d => uptoBulk d + 1
  | .map entries => uptoBulkEntries entries + 1
  | .held _ => 1
def uptoBulkAll {H : Type} : List (DataW H) → Nat
  | [] => 0
  | d :: r => uptoBulk d + uptoBulkAll r
def uptoBulkEntries {H : Type} : List (Lit × DataW H) → Nat
  | [] => 0
  | x :: r => uptoBulkEntry x + uptoBulkEntries r
def uptoBulkEntry {H : Type} : Lit × DataW H → Nat
  | (.string bytes, d) => bytes.length + uptoBulk d + 1
  | (_, d) => uptoBulk d + 1
 end
def uptoSmall : (H : Type) → List (DataW H) → Bool := fun _ ds => decide (uptoBulkAll ds ≤ 1048576)
def OpenSpec.upto (s : _root_.Go.ChangeSpec) : _root_.Go.OpenSpec := { _root_.Go.OpenSpec.ofChange s with cond := some uptoSmall }

/-- 'laws.FnExactConstants', WHERE WHAT IT READS IS OF BULK AT MOST 1048576: true; the input reads as it did. -/
def fnExactConstantsUptoRow : OpenClaim := { program := "ythbliiimjkkemaa", sum := "cf03ce3b1610404bc853a900382c8b95d3a65eeeae49ba93be70a30eade3ba85", func := "loop.example/g01917/laws.FnExactConstants", spec := "fnExactConstants", apart := false, narrowed := true }
def FnExactConstantsUptoSaid : Prop := fnExactConstantsUptoRow.holds Try.pinned (OpenSpec.upto fnExactConstantsSpec)

/-- 'laws.FnExactDecodeValue', WHERE WHAT IT READS IS OF BULK AT MOST 1048576: true; the input reads as it did. -/
def fnExactDecodeValueUptoRow : OpenClaim := { program := "ythbliiimjkkemaa", sum := "cf03ce3b1610404bc853a900382c8b95d3a65eeeae49ba93be70a30eade3ba85", func := "loop.example/g01917/laws.FnExactDecodeValue", spec := "fnExactDecodeValue", apart := false, narrowed := true }
def FnExactDecodeValueUptoSaid : Prop := fnExactDecodeValueUptoRow.holds Try.pinned (OpenSpec.upto fnExactDecodeValueSpec)

/-- 'laws.FnExactEncodeValue', WHERE WHAT IT READS IS OF BULK AT MOST 1048576: true; the input reads as it did. -/
def fnExactEncodeValueUptoRow : OpenClaim := { program := "ythbliiimjkkemaa", sum := "cf03ce3b1610404bc853a900382c8b95d3a65eeeae49ba93be70a30eade3ba85", func := "loop.example/g01917/laws.FnExactEncodeValue", spec := "fnExactEncodeValue", apart := false, narrowed := true }
def FnExactEncodeValueUptoSaid : Prop := fnExactEncodeValueUptoRow.holds Try.pinned (OpenSpec.upto fnExactEncodeValueSpec)

/-- 'laws.FnExactEncodeHex', WHERE WHAT IT READS IS OF BULK AT MOST 1048576: true; the input reads as it did. -/
def fnExactEncodeHexUptoRow : OpenClaim := { program := "ythbliiimjkkemaa", sum := "cf03ce3b1610404bc853a900382c8b95d3a65eeeae49ba93be70a30eade3ba85", func := "loop.example/g01917/laws.FnExactEncodeHex", spec := "fnExactEncodeHex", apart := false, narrowed := true }
def FnExactEncodeHexUptoSaid : Prop := fnExactEncodeHexUptoRow.holds Try.pinned (OpenSpec.upto fnExactEncodeHexSpec)

/-- 'laws.FnExactDecodeFixed', WHERE WHAT IT READS IS OF BULK AT MOST 1048576: true; the input reads as it did. -/
def fnExactDecodeFixedUptoRow : OpenClaim := { program := "ythbliiimjkkemaa", sum := "cf03ce3b1610404bc853a900382c8b95d3a65eeeae49ba93be70a30eade3ba85", func := "loop.example/g01917/laws.FnExactDecodeFixed", spec := "fnExactDecodeFixed", apart := false, narrowed := true }
def FnExactDecodeFixedUptoSaid : Prop := fnExactDecodeFixedUptoRow.holds Try.pinned (OpenSpec.upto fnExactDecodeFixedSpec)

/-- 'laws.FnExactIsValidName', WHERE WHAT IT READS IS OF BULK AT MOST 1048576: true; the input reads as it did. -/
def fnExactIsValidNameUptoRow : OpenClaim := { program := "ythbliiimjkkemaa", sum := "cf03ce3b1610404bc853a900382c8b95d3a65eeeae49ba93be70a30eade3ba85", func := "loop.example/g01917/laws.FnExactIsValidName", spec := "fnExactIsValidName", apart := false, narrowed := true }
def FnExactIsValidNameUptoSaid : Prop := fnExactIsValidNameUptoRow.holds Try.pinned (OpenSpec.upto fnExactIsValidNameSpec)

/-- 'laws.FnExactEncodeVarint', WHERE WHAT IT READS IS OF BULK AT MOST 1048576: true; the input reads as it did. -/
def fnExactEncodeVarintUptoRow : OpenClaim := { program := "ythbliiimjkkemaa", sum := "cf03ce3b1610404bc853a900382c8b95d3a65eeeae49ba93be70a30eade3ba85", func := "loop.example/g01917/laws.FnExactEncodeVarint", spec := "fnExactEncodeVarint", apart := false, narrowed := true }
def FnExactEncodeVarintUptoSaid : Prop := fnExactEncodeVarintUptoRow.holds Try.pinned (OpenSpec.upto fnExactEncodeVarintSpec)

/-- 'laws.FnExactEncodeFixed', WHERE WHAT IT READS IS OF BULK AT MOST 1048576: true; the input reads as it did. -/
def fnExactEncodeFixedUptoRow : OpenClaim := { program := "ythbliiimjkkemaa", sum := "cf03ce3b1610404bc853a900382c8b95d3a65eeeae49ba93be70a30eade3ba85", func := "loop.example/g01917/laws.FnExactEncodeFixed", spec := "fnExactEncodeFixed", apart := false, narrowed := true }
def FnExactEncodeFixedUptoSaid : Prop := fnExactEncodeFixedUptoRow.holds Try.pinned (OpenSpec.upto fnExactEncodeFixedSpec)

/-- 'laws.FnExactDecodeVarint', WHERE WHAT IT READS IS OF BULK AT MOST 1048576: true; the input reads as it did. -/
def fnExactDecodeVarintUptoRow : OpenClaim := { program := "ythbliiimjkkemaa", sum := "cf03ce3b1610404bc853a900382c8b95d3a65eeeae49ba93be70a30eade3ba85", func := "loop.example/g01917/laws.FnExactDecodeVarint", spec := "fnExactDecodeVarint", apart := false, narrowed := true }
def FnExactDecodeVarintUptoSaid : Prop := fnExactDecodeVarintUptoRow.holds Try.pinned (OpenSpec.upto fnExactDecodeVarintSpec)

/-- 'laws.FnExactFormatInt', WHERE WHAT IT READS IS OF BULK AT MOST 1048576: true; the input reads as it did. -/
def fnExactFormatIntUptoRow : OpenClaim := { program := "ythbliiimjkkemaa", sum := "cf03ce3b1610404bc853a900382c8b95d3a65eeeae49ba93be70a30eade3ba85", func := "loop.example/g01917/laws.FnExactFormatInt", spec := "fnExactFormatInt", apart := false, narrowed := true }
def FnExactFormatIntUptoSaid : Prop := fnExactFormatIntUptoRow.holds Try.pinned (OpenSpec.upto fnExactFormatIntSpec)

/-- 'laws.FnExactDecodeHex', WHERE WHAT IT READS IS OF BULK AT MOST 1048576: true; the input reads as it did. -/
def fnExactDecodeHexUptoRow : OpenClaim := { program := "ythbliiimjkkemaa", sum := "cf03ce3b1610404bc853a900382c8b95d3a65eeeae49ba93be70a30eade3ba85", func := "loop.example/g01917/laws.FnExactDecodeHex", spec := "fnExactDecodeHex", apart := false, narrowed := true }
def FnExactDecodeHexUptoSaid : Prop := fnExactDecodeHexUptoRow.holds Try.pinned (OpenSpec.upto fnExactDecodeHexSpec)

/-- 'laws.FnExactParseInt', WHERE WHAT IT READS IS OF BULK AT MOST 1048576: true; the input reads as it did. -/
def fnExactParseIntUptoRow : OpenClaim := { program := "ythbliiimjkkemaa", sum := "cf03ce3b1610404bc853a900382c8b95d3a65eeeae49ba93be70a30eade3ba85", func := "loop.example/g01917/laws.FnExactParseInt", spec := "fnExactParseInt", apart := false, narrowed := true }
def FnExactParseIntUptoSaid : Prop := fnExactParseIntUptoRow.holds Try.pinned (OpenSpec.upto fnExactParseIntSpec)

/-- 'laws.FnEncodings', WHERE WHAT IT READS IS OF BULK AT MOST 1048576: true; the input reads as it did. -/
def fnEncodingsUptoRow : OpenClaim := { program := "ythbliiimjkkemaa", sum := "cf03ce3b1610404bc853a900382c8b95d3a65eeeae49ba93be70a30eade3ba85", func := "loop.example/g01917/laws.FnEncodings", spec := "fnEncodings", apart := false, narrowed := true }
def FnEncodingsUptoSaid : Prop := fnEncodingsUptoRow.holds Try.pinned (OpenSpec.upto fnEncodingsSpec)

end Rows
end Go.Proofs.Ythbliiimjkkemaa
