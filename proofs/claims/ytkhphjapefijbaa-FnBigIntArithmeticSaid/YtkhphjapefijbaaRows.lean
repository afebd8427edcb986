/-
  No cell of these rows narrows 'for every input' (looked for: loops, veiled, ifaces, maps, wideKeys, modest, calm, conditions, laid).
  DERIVED. THE GIVEN ROWS OF THIS SEAT. 20 by the template 'for every input the law returns true; each argument reads behind the call as it read before'; 0 by the template 'total and deterministic' (their statements: YtkhphjapefijbaaTotals.lean).
  GIVEN WITH THE SEED: the statements are not yours to turn. If you find one false, say at which input.
  Laid BY PROGRAM, IN A SANDBOX (cutbox-rows.mjs): the forced cells as the released guide's own fill.sh prints them over the translation b99671dd0f6775a2… (all of the seat's roots in one cut). By AI agents, Wed Nov 11 2026. No macro, syntax, notation, axiom, sorry.
-/
import Derived.Test.YtkhphjapefijbaaChecked
import GoSem.Claim
import GoSem.ClaimJoined
import GoSem.ClaimMapViews
import Derived.JoinedTies
import Derived.KernelRfl
namespace Go.Proofs.Ytkhphjapefijbaa
/- THE CELL 'sum', in the pinned program and in every row, IS THE sha256 OF THE DUMP (.gsa) THAT YtkhphjapefijbaaProg.lean LOADS. Nothing in Lean hashes anything: it is a label: what it is worth is what the hold of that sum in a sandbox is worth. -/
noncomputable def Try.pinned : Pinned := { name := "ytkhphjapefijbaa", sum := "b99671dd0f6775a2571dcced01c02b4b0b5a0bd8dd452b46a3ed625dea7f8ae4", checked := Try.checked }
namespace Rows
def none {H : Type} : Left H := { results := [], args := [] }

/-- 'laws.FnExactIsValidRational': WHATEVER THE INPUT: true; the input reads as it did. -/
def fnExactIsValidRationalSpec : ChangeSpec := { name := "fnExactIsValidRational", fn := fun _ => fun
  | [d] => { results := [.lit (.bool true)], args := [d] }
  | _ => none }
def fnExactIsValidRationalRow : OpenClaim := { program := "ytkhphjapefijbaa", sum := "b99671dd0f6775a2571dcced01c02b4b0b5a0bd8dd452b46a3ed625dea7f8ae4", func := "loop.example/g01917/laws.FnExactIsValidRational", spec := "fnExactIsValidRational", apart := false }
def FnExactIsValidRationalSaid : Prop := fnExactIsValidRationalRow.holds Try.pinned (OpenSpec.ofChange fnExactIsValidRationalSpec)

/-- ITS FALSE NEIGHBOUR: 'it returns false'. Refute it at one input. -/
def fnExactIsValidRationalWrong : ChangeSpec := { name := "fnExactIsValidRational", fn := fun _ => fun
  | [d] => { results := [.lit (.bool false)], args := [d] }
  | _ => none }
def FnExactIsValidRationalWrongFalsely : Prop := fnExactIsValidRationalRow.holds Try.pinned (OpenSpec.ofChange fnExactIsValidRationalWrong)

/-- 'laws.FnExactCompareRationals': WHATEVER THE INPUT: true; the input reads as it did. -/
def fnExactCompareRationalsSpec : ChangeSpec := { name := "fnExactCompareRationals", fn := fun _ => fun
  | [d1, d2] => { results := [.lit (.bool true)], args := [d1, d2] }
  | _ => none }
def fnExactCompareRationalsRow : OpenClaim := { program := "ytkhphjapefijbaa", sum := "b99671dd0f6775a2571dcced01c02b4b0b5a0bd8dd452b46a3ed625dea7f8ae4", func := "loop.example/g01917/laws.FnExactCompareRationals", spec := "fnExactCompareRationals", apart := false }
def FnExactCompareRationalsSaid : Prop := fnExactCompareRationalsRow.holds Try.pinned (OpenSpec.ofChange fnExactCompareRationalsSpec)

/-- ITS FALSE NEIGHBOUR: 'it returns false'. Refute it at one input. -/
def fnExactCompareRationalsWrong : ChangeSpec := { name := "fnExactCompareRationals", fn := fun _ => fun
  | [d1, d2] => { results := [.lit (.bool false)], args := [d1, d2] }
  | _ => none }
def FnExactCompareRationalsWrongFalsely : Prop := fnExactCompareRationalsRow.holds Try.pinned (OpenSpec.ofChange fnExactCompareRationalsWrong)

/-- 'laws.FnExactNewRational': WHATEVER THE INPUT: true; the input reads as it did. -/
def fnExactNewRationalSpec : ChangeSpec := { name := "fnExactNewRational", fn := fun _ => fun
  | [d1, d2] => { results := [.lit (.bool true)], args := [d1, d2] }
  | _ => none }
def fnExactNewRationalRow : OpenClaim := { program := "ytkhphjapefijbaa", sum := "b99671dd0f6775a2571dcced01c02b4b0b5a0bd8dd452b46a3ed625dea7f8ae4", func := "loop.example/g01917/laws.FnExactNewRational", spec := "fnExactNewRational", apart := false }
def FnExactNewRationalSaid : Prop := fnExactNewRationalRow.holds Try.pinned (OpenSpec.ofChange fnExactNewRationalSpec)

/-- ITS FALSE NEIGHBOUR: 'it returns false'. Refute it at one input. -/
def fnExactNewRationalWrong : ChangeSpec := { name := "fnExactNewRational", fn := fun _ => fun
  | [d1, d2] => { results := [.lit (.bool false)], args := [d1, d2] }
  | _ => none }
def FnExactNewRationalWrongFalsely : Prop := fnExactNewRationalRow.holds Try.pinned (OpenSpec.ofChange fnExactNewRationalWrong)

/-- 'laws.FnExactFormatRational': WHATEVER THE INPUT: true; the input reads as it did. -/
def fnExactFormatRationalSpec : ChangeSpec := { name := "fnExactFormatRational", fn := fun _ => fun
  | [d] => { results := [.lit (.bool true)], args := [d] }
  | _ => none }
def fnExactFormatRationalRow : OpenClaim := { program := "ytkhphjapefijbaa", sum := "b99671dd0f6775a2571dcced01c02b4b0b5a0bd8dd452b46a3ed625dea7f8ae4", func := "loop.example/g01917/laws.FnExactFormatRational", spec := "fnExactFormatRational", recurses := true, apart := false }
def FnExactFormatRationalSaid : Prop := fnExactFormatRationalRow.holds Try.pinned (OpenSpec.ofChange fnExactFormatRationalSpec)

/-- ITS FALSE NEIGHBOUR: 'it returns false'. Refute it at one input. -/
def fnExactFormatRationalWrong : ChangeSpec := { name := "fnExactFormatRational", fn := fun _ => fun
  | [d] => { results := [.lit (.bool false)], args := [d] }
  | _ => none }
def FnExactFormatRationalWrongFalsely : Prop := fnExactFormatRationalRow.holds Try.pinned (OpenSpec.ofChange fnExactFormatRationalWrong)

/-- 'laws.FnExactAddRational': WHATEVER THE INPUT: true; the input reads as it did. -/
def fnExactAddRationalSpec : ChangeSpec := { name := "fnExactAddRational", fn := fun _ => fun
  | [d1, d2] => { results := [.lit (.bool true)], args := [d1, d2] }
  | _ => none }
def fnExactAddRationalRow : OpenClaim := { program := "ytkhphjapefijbaa", sum := "b99671dd0f6775a2571dcced01c02b4b0b5a0bd8dd452b46a3ed625dea7f8ae4", func := "loop.example/g01917/laws.FnExactAddRational", spec := "fnExactAddRational", apart := false }
def FnExactAddRationalSaid : Prop := fnExactAddRationalRow.holds Try.pinned (OpenSpec.ofChange fnExactAddRationalSpec)

/-- ITS FALSE NEIGHBOUR: 'it returns false'. Refute it at one input. -/
def fnExactAddRationalWrong : ChangeSpec := { name := "fnExactAddRational", fn := fun _ => fun
  | [d1, d2] => { results := [.lit (.bool false)], args := [d1, d2] }
  | _ => none }
def FnExactAddRationalWrongFalsely : Prop := fnExactAddRationalRow.holds Try.pinned (OpenSpec.ofChange fnExactAddRationalWrong)

/-- 'laws.FnExactDivRational': WHATEVER THE INPUT: true; the input reads as it did. -/
def fnExactDivRationalSpec : ChangeSpec := { name := "fnExactDivRational", fn := fun _ => fun
  | [d1, d2] => { results := [.lit (.bool true)], args := [d1, d2] }
  | _ => none }
def fnExactDivRationalRow : OpenClaim := { program := "ytkhphjapefijbaa", sum := "b99671dd0f6775a2571dcced01c02b4b0b5a0bd8dd452b46a3ed625dea7f8ae4", func := "loop.example/g01917/laws.FnExactDivRational", spec := "fnExactDivRational", apart := false }
def FnExactDivRationalSaid : Prop := fnExactDivRationalRow.holds Try.pinned (OpenSpec.ofChange fnExactDivRationalSpec)

/-- ITS FALSE NEIGHBOUR: 'it returns false'. Refute it at one input. -/
def fnExactDivRationalWrong : ChangeSpec := { name := "fnExactDivRational", fn := fun _ => fun
  | [d1, d2] => { results := [.lit (.bool false)], args := [d1, d2] }
  | _ => none }
def FnExactDivRationalWrongFalsely : Prop := fnExactDivRationalRow.holds Try.pinned (OpenSpec.ofChange fnExactDivRationalWrong)

/-- 'laws.FnExactMulRational': WHATEVER THE INPUT: true; the input reads as it did. -/
def fnExactMulRationalSpec : ChangeSpec := { name := "fnExactMulRational", fn := fun _ => fun
  | [d1, d2] => { results := [.lit (.bool true)], args := [d1, d2] }
  | _ => none }
def fnExactMulRationalRow : OpenClaim := { program := "ytkhphjapefijbaa", sum := "b99671dd0f6775a2571dcced01c02b4b0b5a0bd8dd452b46a3ed625dea7f8ae4", func := "loop.example/g01917/laws.FnExactMulRational", spec := "fnExactMulRational", apart := false }
def FnExactMulRationalSaid : Prop := fnExactMulRationalRow.holds Try.pinned (OpenSpec.ofChange fnExactMulRationalSpec)

/-- ITS FALSE NEIGHBOUR: 'it returns false'. Refute it at one input. -/
def fnExactMulRationalWrong : ChangeSpec := { name := "fnExactMulRational", fn := fun _ => fun
  | [d1, d2] => { results := [.lit (.bool false)], args := [d1, d2] }
  | _ => none }
def FnExactMulRationalWrongFalsely : Prop := fnExactMulRationalRow.holds Try.pinned (OpenSpec.ofChange fnExactMulRationalWrong)

/-- 'laws.FnRationalNormalForm': WHATEVER THE INPUT: true; the input reads as it did. -/
def fnRationalNormalFormSpec : ChangeSpec := { name := "fnRationalNormalForm", fn := fun _ => fun
  | [d] => { results := [.lit (.bool true)], args := [d] }
  | _ => none }
def fnRationalNormalFormRow : OpenClaim := { program := "ytkhphjapefijbaa", sum := "b99671dd0f6775a2571dcced01c02b4b0b5a0bd8dd452b46a3ed625dea7f8ae4", func := "loop.example/g01917/laws.FnRationalNormalForm", spec := "fnRationalNormalForm", apart := false }
def FnRationalNormalFormSaid : Prop := fnRationalNormalFormRow.holds Try.pinned (OpenSpec.ofChange fnRationalNormalFormSpec)

/-- ITS FALSE NEIGHBOUR: 'it returns false'. Refute it at one input. -/
def fnRationalNormalFormWrong : ChangeSpec := { name := "fnRationalNormalForm", fn := fun _ => fun
  | [d] => { results := [.lit (.bool false)], args := [d] }
  | _ => none }
def FnRationalNormalFormWrongFalsely : Prop := fnRationalNormalFormRow.holds Try.pinned (OpenSpec.ofChange fnRationalNormalFormWrong)

/-- 'laws.FnExactSubRational': WHATEVER THE INPUT: true; the input reads as it did. -/
def fnExactSubRationalSpec : ChangeSpec := { name := "fnExactSubRational", fn := fun _ => fun
  | [d1, d2] => { results := [.lit (.bool true)], args := [d1, d2] }
  | _ => none }
def fnExactSubRationalRow : OpenClaim := { program := "ytkhphjapefijbaa", sum := "b99671dd0f6775a2571dcced01c02b4b0b5a0bd8dd452b46a3ed625dea7f8ae4", func := "loop.example/g01917/laws.FnExactSubRational", spec := "fnExactSubRational", apart := false }
def FnExactSubRationalSaid : Prop := fnExactSubRationalRow.holds Try.pinned (OpenSpec.ofChange fnExactSubRationalSpec)

/-- ITS FALSE NEIGHBOUR: 'it returns false'. Refute it at one input. -/
def fnExactSubRationalWrong : ChangeSpec := { name := "fnExactSubRational", fn := fun _ => fun
  | [d1, d2] => { results := [.lit (.bool false)], args := [d1, d2] }
  | _ => none }
def FnExactSubRationalWrongFalsely : Prop := fnExactSubRationalRow.holds Try.pinned (OpenSpec.ofChange fnExactSubRationalWrong)

/-- 'laws.FnExactParseRational': WHATEVER THE INPUT: true; the input reads as it did. -/
def fnExactParseRationalSpec : ChangeSpec := { name := "fnExactParseRational", fn := fun _ => fun
  | [d] => { results := [.lit (.bool true)], args := [d] }
  | _ => none }
def fnExactParseRationalRow : OpenClaim := { program := "ytkhphjapefijbaa", sum := "b99671dd0f6775a2571dcced01c02b4b0b5a0bd8dd452b46a3ed625dea7f8ae4", func := "loop.example/g01917/laws.FnExactParseRational", spec := "fnExactParseRational", recurses := true, apart := false }
def FnExactParseRationalSaid : Prop := fnExactParseRationalRow.holds Try.pinned (OpenSpec.ofChange fnExactParseRationalSpec)

/-- ITS FALSE NEIGHBOUR: 'it returns false'. Refute it at one input. -/
def fnExactParseRationalWrong : ChangeSpec := { name := "fnExactParseRational", fn := fun _ => fun
  | [d] => { results := [.lit (.bool false)], args := [d] }
  | _ => none }
def FnExactParseRationalWrongFalsely : Prop := fnExactParseRationalRow.holds Try.pinned (OpenSpec.ofChange fnExactParseRationalWrong)

/-- 'laws.FnRationalArithmetic': WHATEVER THE INPUT: true; the input reads as it did. -/
def fnRationalArithmeticSpec : ChangeSpec := { name := "fnRationalArithmetic", fn := fun _ => fun
  | [d] => { results := [.lit (.bool true)], args := [d] }
  | _ => none }
def fnRationalArithmeticRow : OpenClaim := { program := "ytkhphjapefijbaa", sum := "b99671dd0f6775a2571dcced01c02b4b0b5a0bd8dd452b46a3ed625dea7f8ae4", func := "loop.example/g01917/laws.FnRationalArithmetic", spec := "fnRationalArithmetic", apart := false }
def FnRationalArithmeticSaid : Prop := fnRationalArithmeticRow.holds Try.pinned (OpenSpec.ofChange fnRationalArithmeticSpec)

/-- ITS FALSE NEIGHBOUR: 'it returns false'. Refute it at one input. -/
def fnRationalArithmeticWrong : ChangeSpec := { name := "fnRationalArithmetic", fn := fun _ => fun
  | [d] => { results := [.lit (.bool false)], args := [d] }
  | _ => none }
def FnRationalArithmeticWrongFalsely : Prop := fnRationalArithmeticRow.holds Try.pinned (OpenSpec.ofChange fnRationalArithmeticWrong)

/-- 'laws.FnExactBigIntFromInt': WHATEVER THE INPUT: true; the input reads as it did. -/
def fnExactBigIntFromIntSpec : ChangeSpec := { name := "fnExactBigIntFromInt", fn := fun _ => fun
  | [d] => { results := [.lit (.bool true)], args := [d] }
  | _ => none }
def fnExactBigIntFromIntRow : OpenClaim := { program := "ytkhphjapefijbaa", sum := "b99671dd0f6775a2571dcced01c02b4b0b5a0bd8dd452b46a3ed625dea7f8ae4", func := "loop.example/g01917/laws.FnExactBigIntFromInt", spec := "fnExactBigIntFromInt", apart := false }
def FnExactBigIntFromIntSaid : Prop := fnExactBigIntFromIntRow.holds Try.pinned (OpenSpec.ofChange fnExactBigIntFromIntSpec)

/-- ITS FALSE NEIGHBOUR: 'it returns false'. Refute it at one input. -/
def fnExactBigIntFromIntWrong : ChangeSpec := { name := "fnExactBigIntFromInt", fn := fun _ => fun
  | [d] => { results := [.lit (.bool false)], args := [d] }
  | _ => none }
def FnExactBigIntFromIntWrongFalsely : Prop := fnExactBigIntFromIntRow.holds Try.pinned (OpenSpec.ofChange fnExactBigIntFromIntWrong)

/-- 'laws.FnExactIsValidBigInt': WHATEVER THE INPUT: true; the input reads as it did. -/
def fnExactIsValidBigIntSpec : ChangeSpec := { name := "fnExactIsValidBigInt", fn := fun _ => fun
  | [d] => { results := [.lit (.bool true)], args := [d] }
  | _ => none }
def fnExactIsValidBigIntRow : OpenClaim := { program := "ytkhphjapefijbaa", sum := "b99671dd0f6775a2571dcced01c02b4b0b5a0bd8dd452b46a3ed625dea7f8ae4", func := "loop.example/g01917/laws.FnExactIsValidBigInt", spec := "fnExactIsValidBigInt", apart := false }
def FnExactIsValidBigIntSaid : Prop := fnExactIsValidBigIntRow.holds Try.pinned (OpenSpec.ofChange fnExactIsValidBigIntSpec)

/-- ITS FALSE NEIGHBOUR: 'it returns false'. Refute it at one input. -/
def fnExactIsValidBigIntWrong : ChangeSpec := { name := "fnExactIsValidBigInt", fn := fun _ => fun
  | [d] => { results := [.lit (.bool false)], args := [d] }
  | _ => none }
def FnExactIsValidBigIntWrongFalsely : Prop := fnExactIsValidBigIntRow.holds Try.pinned (OpenSpec.ofChange fnExactIsValidBigIntWrong)

/-- 'laws.FnExactCompareBigInts': WHATEVER THE INPUT: true; the input reads as it did. -/
def fnExactCompareBigIntsSpec : ChangeSpec := { name := "fnExactCompareBigInts", fn := fun _ => fun
  | [d1, d2] => { results := [.lit (.bool true)], args := [d1, d2] }
  | _ => none }
def fnExactCompareBigIntsRow : OpenClaim := { program := "ytkhphjapefijbaa", sum := "b99671dd0f6775a2571dcced01c02b4b0b5a0bd8dd452b46a3ed625dea7f8ae4", func := "loop.example/g01917/laws.FnExactCompareBigInts", spec := "fnExactCompareBigInts", apart := false }
def FnExactCompareBigIntsSaid : Prop := fnExactCompareBigIntsRow.holds Try.pinned (OpenSpec.ofChange fnExactCompareBigIntsSpec)

/-- ITS FALSE NEIGHBOUR: 'it returns false'. Refute it at one input. -/
def fnExactCompareBigIntsWrong : ChangeSpec := { name := "fnExactCompareBigInts", fn := fun _ => fun
  | [d1, d2] => { results := [.lit (.bool false)], args := [d1, d2] }
  | _ => none }
def FnExactCompareBigIntsWrongFalsely : Prop := fnExactCompareBigIntsRow.holds Try.pinned (OpenSpec.ofChange fnExactCompareBigIntsWrong)

/-- 'laws.FnExactFormatBigInt': WHATEVER THE INPUT: true; the input reads as it did. -/
def fnExactFormatBigIntSpec : ChangeSpec := { name := "fnExactFormatBigInt", fn := fun _ => fun
  | [d] => { results := [.lit (.bool true)], args := [d] }
  | _ => none }
def fnExactFormatBigIntRow : OpenClaim := { program := "ytkhphjapefijbaa", sum := "b99671dd0f6775a2571dcced01c02b4b0b5a0bd8dd452b46a3ed625dea7f8ae4", func := "loop.example/g01917/laws.FnExactFormatBigInt", spec := "fnExactFormatBigInt", recurses := true, apart := false }
def FnExactFormatBigIntSaid : Prop := fnExactFormatBigIntRow.holds Try.pinned (OpenSpec.ofChange fnExactFormatBigIntSpec)

/-- ITS FALSE NEIGHBOUR: 'it returns false'. Refute it at one input. -/
def fnExactFormatBigIntWrong : ChangeSpec := { name := "fnExactFormatBigInt", fn := fun _ => fun
  | [d] => { results := [.lit (.bool false)], args := [d] }
  | _ => none }
def FnExactFormatBigIntWrongFalsely : Prop := fnExactFormatBigIntRow.holds Try.pinned (OpenSpec.ofChange fnExactFormatBigIntWrong)

/-- 'laws.FnExactMulBigInt': WHATEVER THE INPUT: true; the input reads as it did. -/
def fnExactMulBigIntSpec : ChangeSpec := { name := "fnExactMulBigInt", fn := fun _ => fun
  | [d1, d2] => { results := [.lit (.bool true)], args := [d1, d2] }
  | _ => none }
def fnExactMulBigIntRow : OpenClaim := { program := "ytkhphjapefijbaa", sum := "b99671dd0f6775a2571dcced01c02b4b0b5a0bd8dd452b46a3ed625dea7f8ae4", func := "loop.example/g01917/laws.FnExactMulBigInt", spec := "fnExactMulBigInt", apart := false }
def FnExactMulBigIntSaid : Prop := fnExactMulBigIntRow.holds Try.pinned (OpenSpec.ofChange fnExactMulBigIntSpec)

/-- ITS FALSE NEIGHBOUR: 'it returns false'. Refute it at one input. -/
def fnExactMulBigIntWrong : ChangeSpec := { name := "fnExactMulBigInt", fn := fun _ => fun
  | [d1, d2] => { results := [.lit (.bool false)], args := [d1, d2] }
  | _ => none }
def FnExactMulBigIntWrongFalsely : Prop := fnExactMulBigIntRow.holds Try.pinned (OpenSpec.ofChange fnExactMulBigIntWrong)

/-- 'laws.FnExactAddBigInt': WHATEVER THE INPUT: true; the input reads as it did. -/
def fnExactAddBigIntSpec : ChangeSpec := { name := "fnExactAddBigInt", fn := fun _ => fun
  | [d1, d2] => { results := [.lit (.bool true)], args := [d1, d2] }
  | _ => none }
def fnExactAddBigIntRow : OpenClaim := { program := "ytkhphjapefijbaa", sum := "b99671dd0f6775a2571dcced01c02b4b0b5a0bd8dd452b46a3ed625dea7f8ae4", func := "loop.example/g01917/laws.FnExactAddBigInt", spec := "fnExactAddBigInt", apart := false }
def FnExactAddBigIntSaid : Prop := fnExactAddBigIntRow.holds Try.pinned (OpenSpec.ofChange fnExactAddBigIntSpec)

/-- ITS FALSE NEIGHBOUR: 'it returns false'. Refute it at one input. -/
def fnExactAddBigIntWrong : ChangeSpec := { name := "fnExactAddBigInt", fn := fun _ => fun
  | [d1, d2] => { results := [.lit (.bool false)], args := [d1, d2] }
  | _ => none }
def FnExactAddBigIntWrongFalsely : Prop := fnExactAddBigIntRow.holds Try.pinned (OpenSpec.ofChange fnExactAddBigIntWrong)

/-- 'laws.FnExactPowBigInt': WHATEVER THE INPUT: true; the input reads as it did. -/
def fnExactPowBigIntSpec : ChangeSpec := { name := "fnExactPowBigInt", fn := fun _ => fun
  | [d1, d2] => { results := [.lit (.bool true)], args := [d1, d2] }
  | _ => none }
def fnExactPowBigIntRow : OpenClaim := { program := "ytkhphjapefijbaa", sum := "b99671dd0f6775a2571dcced01c02b4b0b5a0bd8dd452b46a3ed625dea7f8ae4", func := "loop.example/g01917/laws.FnExactPowBigInt", spec := "fnExactPowBigInt", apart := false }
def FnExactPowBigIntSaid : Prop := fnExactPowBigIntRow.holds Try.pinned (OpenSpec.ofChange fnExactPowBigIntSpec)

/-- ITS FALSE NEIGHBOUR: 'it returns false'. Refute it at one input. -/
def fnExactPowBigIntWrong : ChangeSpec := { name := "fnExactPowBigInt", fn := fun _ => fun
  | [d1, d2] => { results := [.lit (.bool false)], args := [d1, d2] }
  | _ => none }
def FnExactPowBigIntWrongFalsely : Prop := fnExactPowBigIntRow.holds Try.pinned (OpenSpec.ofChange fnExactPowBigIntWrong)

/-- 'laws.FnPowers': WHATEVER THE INPUT: true; the input reads as it did. -/
def fnPowersSpec : ChangeSpec := { name := "fnPowers", fn := fun _ => fun
  | [d] => { results := [.lit (.bool true)], args := [d] }
  | _ => none }
def fnPowersRow : OpenClaim := { program := "ytkhphjapefijbaa", sum := "b99671dd0f6775a2571dcced01c02b4b0b5a0bd8dd452b46a3ed625dea7f8ae4", func := "loop.example/g01917/laws.FnPowers", spec := "fnPowers", recurses := true, apart := false }
def FnPowersSaid : Prop := fnPowersRow.holds Try.pinned (OpenSpec.ofChange fnPowersSpec)

/-- ITS FALSE NEIGHBOUR: 'it returns false'. Refute it at one input. -/
def fnPowersWrong : ChangeSpec := { name := "fnPowers", fn := fun _ => fun
  | [d] => { results := [.lit (.bool false)], args := [d] }
  | _ => none }
def FnPowersWrongFalsely : Prop := fnPowersRow.holds Try.pinned (OpenSpec.ofChange fnPowersWrong)

/-- 'laws.FnBigIntArithmetic': WHATEVER THE INPUT: true; the input reads as it did. -/
def fnBigIntArithmeticSpec : ChangeSpec := { name := "fnBigIntArithmetic", fn := fun _ => fun
  | [d] => { results := [.lit (.bool true)], args := [d] }
  | _ => none }
def fnBigIntArithmeticRow : OpenClaim := { program := "ytkhphjapefijbaa", sum := "b99671dd0f6775a2571dcced01c02b4b0b5a0bd8dd452b46a3ed625dea7f8ae4", func := "loop.example/g01917/laws.FnBigIntArithmetic", spec := "fnBigIntArithmetic", recurses := true, apart := false }
def FnBigIntArithmeticSaid : Prop := fnBigIntArithmeticRow.holds Try.pinned (OpenSpec.ofChange fnBigIntArithmeticSpec)

/-- ITS FALSE NEIGHBOUR: 'it returns false'. Refute it at one input. -/
def fnBigIntArithmeticWrong : ChangeSpec := { name := "fnBigIntArithmetic", fn := fun _ => fun
  | [d] => { results := [.lit (.bool false)], args := [d] }
  | _ => none }
def FnBigIntArithmeticWrongFalsely : Prop := fnBigIntArithmeticRow.holds Try.pinned (OpenSpec.ofChange fnBigIntArithmeticWrong)

/- THE SECOND FORM. 'bulk': how many values and letters a reading holds, each counted each time it is reached (what is shared counts as often as it is met; a slice's spare places count too). A statement '..UptoSaid' is the law's where the arguments, and the package variables that the reading takes, are together of bulk at most 1048576: NARROWER than '..Said'. Prove '..Said' where nothing that the law and all that it calls make is longer than what came in: it says more and counts as full. Else prove '..UptoSaid'. A law counts once. -/
mutual
def uptoBulk {H : Type} : DataW H → Nat
  | .lit (.string bytes) => bytes.length + 1
  | .lit _ => 1
  | .nil => 1
  | .ptr d => uptoBulk d + 1
  | .slice elems spare => uptoBulkAll elems + uptoBulkAll spare + 1
  | .agg parts => uptoBulkAll parts + 1
  | .iface _ d => uptoBulk d + 1
  | .map entries => uptoBulkEntries entries + 1
  | .held _ => 1
def uptoBulkAll {H : Type} : List (DataW H) → Nat
  | [] => 0
  | d :: r => uptoBulk d + uptoBulkAll r
def uptoBulkEntries {H : Type} : List (Lit × DataW H) → Nat
  | [] => 0
  | x :: r => uptoBulkEntry x + uptoBulkEntries r
def uptoBulkEntry {H : Type} : Lit × DataW H → Nat
  | (.string bytes, d) => bytes.length + uptoBulk d + 1
  | (_, d) => uptoBulk d + 1
 end
def uptoSmall : (H : Type) → List (DataW H) → Bool := fun _ ds => decide (uptoBulkAll ds ≤ 1048576)
def OpenSpec.upto (s : _root_.Go.ChangeSpec) : _root_.Go.OpenSpec := { _root_.Go.OpenSpec.ofChange s with cond := some uptoSmall }

/-- 'laws.FnExactIsValidRational', WHERE WHAT IT READS IS OF BULK AT MOST 1048576: true; the input reads as it did. -/
def fnExactIsValidRationalUptoRow : OpenClaim := { program := "ytkhphjapefijbaa", sum := "b99671dd0f6775a2571dcced01c02b4b0b5a0bd8dd452b46a3ed625dea7f8ae4", func := "loop.example/g01917/laws.FnExactIsValidRational", spec := "fnExactIsValidRational", apart := false, narrowed := true }
def FnExactIsValidRationalUptoSaid : Prop := fnExactIsValidRationalUptoRow.holds Try.pinned (OpenSpec.upto fnExactIsValidRationalSpec)

/-- 'laws.FnExactCompareRationals', WHERE WHAT IT READS IS OF BULK AT MOST 1048576: true; the input reads as it did. -/
def fnExactCompareRationalsUptoRow : OpenClaim := { program := "ytkhphjapefijbaa", sum := "b99671dd0f6775a2571dcced01c02b4b0b5a0bd8dd452b46a3ed625dea7f8ae4", func := "loop.example/g01917/laws.FnExactCompareRationals", spec := "fnExactCompareRationals", apart := false, narrowed := true }
def FnExactCompareRationalsUptoSaid : Prop := fnExactCompareRationalsUptoRow.holds Try.pinned (OpenSpec.upto fnExactCompareRationalsSpec)

/-- 'laws.FnExactNewRational', WHERE WHAT IT READS IS OF BULK AT MOST 1048576: true; the input reads as it did. -/
def fnExactNewRationalUptoRow : OpenClaim := { program := "ytkhphjapefijbaa", sum := "b99671dd0f6775a2571dcced01c02b4b0b5a0bd8dd452b46a3ed625dea7f8ae4", func := "loop.example/g01917/laws.FnExactNewRational", spec := "fnExactNewRational", apart := false, narrowed := true }
def FnExactNewRationalUptoSaid : Prop := fnExactNewRationalUptoRow.holds Try.pinned (OpenSpec.upto fnExactNewRationalSpec)

/-- 'laws.FnExactFormatRational', WHERE WHAT IT READS IS OF BULK AT MOST 1048576: true; the input reads as it did. -/
def fnExactFormatRationalUptoRow : OpenClaim := { program := "ytkhphjapefijbaa", sum := "b99671dd0f6775a2571dcced01c02b4b0b5a0bd8dd452b46a3ed625dea7f8ae4", func := "loop.example/g01917/laws.FnExactFormatRational", spec := "fnExactFormatRational", recurses := true, apart := false, narrowed := true }
def FnExactFormatRationalUptoSaid : Prop := fnExactFormatRationalUptoRow.holds Try.pinned (OpenSpec.upto fnExactFormatRationalSpec)

/-- 'laws.FnExactAddRational', WHERE WHAT IT READS IS OF BULK AT MOST 1048576: true; the input reads as it did. -/
def fnExactAddRationalUptoRow : OpenClaim := { program := "ytkhphjapefijbaa", sum := "b99671dd0f6775a2571dcced01c02b4b0b5a0bd8dd452b46a3ed625dea7f8ae4", func := "loop.example/g01917/laws.FnExactAddRational", spec := "fnExactAddRational", apart := false, narrowed := true }
def FnExactAddRationalUptoSaid : Prop := fnExactAddRationalUptoRow.holds Try.pinned (OpenSpec.upto fnExactAddRationalSpec)

/-- 'laws.FnExactDivRational', WHERE WHAT IT READS IS OF BULK AT MOST 1048576: true; the input reads as it did. -/
def fnExactDivRationalUptoRow : OpenClaim := { program := "ytkhphjapefijbaa", sum := "b99671dd0f6775a2571dcced01c02b4b0b5a0bd8dd452b46a3ed625dea7f8ae4", func := "loop.example/g01917/laws.FnExactDivRational", spec := "fnExactDivRational", apart := false, narrowed := true }
def FnExactDivRationalUptoSaid : Prop := fnExactDivRationalUptoRow.holds Try.pinned (OpenSpec.upto fnExactDivRationalSpec)

/-- 'laws.FnExactMulRational', WHERE WHAT IT READS IS OF BULK AT MOST 1048576: true; the input reads as it did. -/
def fnExactMulRationalUptoRow : OpenClaim := { program := "ytkhphjapefijbaa", sum := "b99671dd0f6775a2571dcced01c02b4b0b5a0bd8dd452b46a3ed625dea7f8ae4", func := "loop.example/g01917/laws.FnExactMulRational", spec := "fnExactMulRational", apart := false, narrowed := true }
def FnExactMulRationalUptoSaid : Prop := fnExactMulRationalUptoRow.holds Try.pinned (OpenSpec.upto fnExactMulRationalSpec)

/-- 'laws.FnRationalNormalForm', WHERE WHAT IT READS IS OF BULK AT MOST 1048576: true; the input reads as it did. -/
def fnRationalNormalFormUptoRow : OpenClaim := { program := "ytkhphjapefijbaa", sum := "b99671dd0f6775a2571dcced01c02b4b0b5a0bd8dd452b46a3ed625dea7f8ae4", func := "loop.example/g01917/laws.FnRationalNormalForm", spec := "fnRationalNormalForm", apart := false, narrowed := true }
def FnRationalNormalFormUptoSaid : Prop := fnRationalNormalFormUptoRow.holds Try.pinned (OpenSpec.upto fnRationalNormalFormSpec)

/-- 'laws.FnExactSubRational', WHERE WHAT IT READS IS OF BULK AT MOST 1048576: true; the input reads as it did. -/
def fnExactSubRationalUptoRow : OpenClaim := { program := "ytkhphjapefijbaa", sum := "b99671dd0f6775a2571dcced01c02b4b0b5a0bd8dd452b46a3ed625dea7f8ae4", func := "loop.example/g01917/laws.FnExactSubRational", spec := "fnExactSubRational", apart := false, narrowed := true }
def FnExactSubRationalUptoSaid : Prop := fnExactSubRationalUptoRow.holds Try.pinned (OpenSpec.upto fnExactSubRationalSpec)

/-- 'laws.FnExactParseRational', WHERE WHAT IT READS IS OF BULK AT MOST 1048576: true; the input reads as it did. -/
def fnExactParseRationalUptoRow : OpenClaim := { program := "ytkhphjapefijbaa", sum := "b99671dd0f6775a2571dcced01c02b4b0b5a0bd8dd452b46a3ed625dea7f8ae4", func := "loop.example/g01917/laws.FnExactParseRational", spec := "fnExactParseRational", recurses := true, apart := false, narrowed := true }
def FnExactParseRationalUptoSaid : Prop := fnExactParseRationalUptoRow.holds Try.pinned (OpenSpec.upto fnExactParseRationalSpec)

/-- 'laws.FnRationalArithmetic', WHERE WHAT IT READS IS OF BULK AT MOST 1048576: true; the input reads as it did. -/
def fnRationalArithmeticUptoRow : OpenClaim := { program := "ytkhphjapefijbaa", sum := "b99671dd0f6775a2571dcced01c02b4b0b5a0bd8dd452b46a3ed625dea7f8ae4", func := "loop.example/g01917/laws.FnRationalArithmetic", spec := "fnRationalArithmetic", apart := false, narrowed := true }
def FnRationalArithmeticUptoSaid : Prop := fnRationalArithmeticUptoRow.holds Try.pinned (OpenSpec.upto fnRationalArithmeticSpec)

/-- 'laws.FnExactBigIntFromInt', WHERE WHAT IT READS IS OF BULK AT MOST 1048576: true; the input reads as it did. -/
def fnExactBigIntFromIntUptoRow : OpenClaim := { program := "ytkhphjapefijbaa", sum := "b99671dd0f6775a2571dcced01c02b4b0b5a0bd8dd452b46a3ed625dea7f8ae4", func := "loop.example/g01917/laws.FnExactBigIntFromInt", spec := "fnExactBigIntFromInt", apart := false, narrowed := true }
def FnExactBigIntFromIntUptoSaid : Prop := fnExactBigIntFromIntUptoRow.holds Try.pinned (OpenSpec.upto fnExactBigIntFromIntSpec)

/-- 'laws.FnExactIsValidBigInt', WHERE WHAT IT READS IS OF BULK AT MOST 1048576: true; the input reads as it did. -/
def fnExactIsValidBigIntUptoRow : OpenClaim := { program := "ytkhphjapefijbaa", sum := "b99671dd0f6775a2571dcced01c02b4b0b5a0bd8dd452b46a3ed625dea7f8ae4", func := "loop.example/g01917/laws.FnExactIsValidBigInt", spec := "fnExactIsValidBigInt", apart := false, narrowed := true }
def FnExactIsValidBigIntUptoSaid : Prop := fnExactIsValidBigIntUptoRow.holds Try.pinned (OpenSpec.upto fnExactIsValidBigIntSpec)

/-- 'laws.FnExactCompareBigInts', WHERE WHAT IT READS IS OF BULK AT MOST 1048576: true; the input reads as it did. -/
def fnExactCompareBigIntsUptoRow : OpenClaim := { program := "ytkhphjapefijbaa", sum := "b99671dd0f6775a2571dcced01c02b4b0b5a0bd8dd452b46a3ed625dea7f8ae4", func := "loop.example/g01917/laws.FnExactCompareBigInts", spec := "fnExactCompareBigInts", apart := false, narrowed := true }
def FnExactCompareBigIntsUptoSaid : Prop := fnExactCompareBigIntsUptoRow.holds Try.pinned (OpenSpec.upto fnExactCompareBigIntsSpec)

/-- 'laws.FnExactFormatBigInt', WHERE WHAT IT READS IS OF BULK AT MOST 1048576: true; the input reads as it did. -/
def fnExactFormatBigIntUptoRow : OpenClaim := { program := "ytkhphjapefijbaa", sum := "b99671dd0f6775a2571dcced01c02b4b0b5a0bd8dd452b46a3ed625dea7f8ae4", func := "loop.example/g01917/laws.FnExactFormatBigInt", spec := "fnExactFormatBigInt", recurses := true, apart := false, narrowed := true }
def FnExactFormatBigIntUptoSaid : Prop := fnExactFormatBigIntUptoRow.holds Try.pinned (OpenSpec.upto fnExactFormatBigIntSpec)

/-- 'laws.FnExactMulBigInt', WHERE WHAT IT READS IS OF BULK AT MOST 1048576: true; the input reads as it did. -/
def fnExactMulBigIntUptoRow : OpenClaim := { program := "ytkhphjapefijbaa", sum := "b99671dd0f6775a2571dcced01c02b4b0b5a0bd8dd452b46a3ed625dea7f8ae4", func := "loop.example/g01917/laws.FnExactMulBigInt", spec := "fnExactMulBigInt", apart := false, narrowed := true }
def FnExactMulBigIntUptoSaid : Prop := fnExactMulBigIntUptoRow.holds Try.pinned (OpenSpec.upto fnExactMulBigIntSpec)

/-- 'laws.FnExactAddBigInt', WHERE WHAT IT READS IS OF BULK AT MOST 1048576: true; the input reads as it did. -/
def fnExactAddBigIntUptoRow : OpenClaim := { program := "ytkhphjapefijbaa", sum := "b99671dd0f6775a2571dcced01c02b4b0b5a0bd8dd452b46a3ed625dea7f8ae4", func := "loop.example/g01917/laws.FnExactAddBigInt", spec := "fnExactAddBigInt", apart := false, narrowed := true }
def FnExactAddBigIntUptoSaid : Prop := fnExactAddBigIntUptoRow.holds Try.pinned (OpenSpec.upto fnExactAddBigIntSpec)

/-- 'laws.FnExactPowBigInt', WHERE WHAT IT READS IS OF BULK AT MOST 1048576: true; the input reads as it did. -/
def fnExactPowBigIntUptoRow : OpenClaim := { program := "ytkhphjapefijbaa", sum := "b99671dd0f6775a2571dcced01c02b4b0b5a0bd8dd452b46a3ed625dea7f8ae4", func := "loop.example/g01917/laws.FnExactPowBigInt", spec := "fnExactPowBigInt", apart := false, narrowed := true }
def FnExactPowBigIntUptoSaid : Prop := fnExactPowBigIntUptoRow.holds Try.pinned (OpenSpec.upto fnExactPowBigIntSpec)

/-- 'laws.FnPowers', WHERE WHAT IT READS IS OF BULK AT MOST 1048576: true; the input reads as it did. -/
def fnPowersUptoRow : OpenClaim := { program := "ytkhphjapefijbaa", sum := "b99671dd0f6775a2571dcced01c02b4b0b5a0bd8dd452b46a3ed625dea7f8ae4", func := "loop.example/g01917/laws.FnPowers", spec := "fnPowers", recurses := true, apart := false, narrowed := true }
def FnPowersUptoSaid : Prop := fnPowersUptoRow.holds Try.pinned (OpenSpec.upto fnPowersSpec)

/-- 'laws.FnBigIntArithmetic', WHERE WHAT IT READS IS OF BULK AT MOST 1048576: true; the input reads as it did. -/
def fnBigIntArithmeticUptoRow : OpenClaim := { program := "ytkhphjapefijbaa", sum := "b99671dd0f6775a2571dcced01c02b4b0b5a0bd8dd452b46a3ed625dea7f8ae4", func := "loop.example/g01917/laws.FnBigIntArithmetic", spec := "fnBigIntArithmetic", recurses := true, apart := false, narrowed := true }
def FnBigIntArithmeticUptoSaid : Prop := fnBigIntArithmeticUptoRow.holds Try.pinned (OpenSpec.upto fnBigIntArithmeticSpec)

end Rows
end Go.Proofs.Ytkhphjapefijbaa
