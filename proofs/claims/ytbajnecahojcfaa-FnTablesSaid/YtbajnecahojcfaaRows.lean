/-
  No cell of these rows narrows 'for every input' (looked for: loops, veiled, ifaces, maps, wideKeys, modest, calm, conditions, laid).
  DERIVED. THE GIVEN ROWS OF THIS SEAT. 24 by the template 'for every input the law returns true; each argument reads behind the call as it read before'; 0 by the template 'total and deterministic' (their statements: YtbajnecahojcfaaTotals.lean).
  GIVEN WITH THE SEED: the statements are not yours to turn. If you find one false, say at which input.
  Laid BY PROGRAM, IN A SANDBOX (cutbox-rows.mjs): the forced cells as the released guide's own fill.sh prints them over the translation e5455a3d4ccb2eb0… (all of the seat's roots in one cut). By AI agents, Wed Nov 11 2026. No macro, syntax, notation, axiom, sorry.
-/
import Derived.Test.YtbajnecahojcfaaChecked
import GoSem.Claim
import GoSem.ClaimJoined
import GoSem.ClaimMapViews
import Derived.JoinedTies
import Derived.KernelRfl
namespace Go.Proofs.Ytbajnecahojcfaa
/- THE CELL 'sum', in the pinned program and in every row, IS THE sha256 OF THE DUMP (.gsa) THAT YtbajnecahojcfaaProg.lean LOADS. Nothing in Lean hashes anything: it is a label: what it is worth is what the hold of that sum in a sandbox is worth. -/
noncomputable def Try.pinned : Pinned := { name := "ytbajnecahojcfaa", sum := "e5455a3d4ccb2eb0be32dd40aabe6fdaac5b4490956cbdb0a225ca4f533240fe", checked := Try.checked }
namespace Rows
def none {H : Type} : Left H := { results := [], args := [] }

/-- 'laws.FnExactAreValidValues': WHATEVER THE INPUT: true; the input reads as it did. -/
def fnExactAreValidValuesSpec : ChangeSpec := { name := "fnExactAreValidValues", fn := fun _ => fun
  | [d] => { results := [.lit (.bool true)], args := [d] }
  | _ => none }
def fnExactAreValidValuesRow : OpenClaim := { program := "ytbajnecahojcfaa", sum := "e5455a3d4ccb2eb0be32dd40aabe6fdaac5b4490956cbdb0a225ca4f533240fe", func := "loop.example/g01917/laws.FnExactAreValidValues", spec := "fnExactAreValidValues", apart := false }
def FnExactAreValidValuesSaid : Prop := fnExactAreValidValuesRow.holds Try.pinned (OpenSpec.ofChange fnExactAreValidValuesSpec)

/-- ITS FALSE NEIGHBOUR: 'it returns false'. Refute it at one input. -/
def fnExactAreValidValuesWrong : ChangeSpec := { name := "fnExactAreValidValues", fn := fun _ => fun
  | [d] => { results := [.lit (.bool false)], args := [d] }
  | _ => none }
def FnExactAreValidValuesWrongFalsely : Prop := fnExactAreValidValuesRow.holds Try.pinned (OpenSpec.ofChange fnExactAreValidValuesWrong)

/-- 'laws.FnExactCompareRows': WHATEVER THE INPUT: true; the input reads as it did. -/
def fnExactCompareRowsSpec : ChangeSpec := { name := "fnExactCompareRows", fn := fun _ => fun
  | [d1, d2] => { results := [.lit (.bool true)], args := [d1, d2] }
  | _ => none }
def fnExactCompareRowsRow : OpenClaim := { program := "ytbajnecahojcfaa", sum := "e5455a3d4ccb2eb0be32dd40aabe6fdaac5b4490956cbdb0a225ca4f533240fe", func := "loop.example/g01917/laws.FnExactCompareRows", spec := "fnExactCompareRows", apart := false }
def FnExactCompareRowsSaid : Prop := fnExactCompareRowsRow.holds Try.pinned (OpenSpec.ofChange fnExactCompareRowsSpec)

/-- ITS FALSE NEIGHBOUR: 'it returns false'. Refute it at one input. -/
def fnExactCompareRowsWrong : ChangeSpec := { name := "fnExactCompareRows", fn := fun _ => fun
  | [d1, d2] => { results := [.lit (.bool false)], args := [d1, d2] }
  | _ => none }
def FnExactCompareRowsWrongFalsely : Prop := fnExactCompareRowsRow.holds Try.pinned (OpenSpec.ofChange fnExactCompareRowsWrong)

/-- 'laws.FnExactEncodeRow': WHATEVER THE INPUT: true; the input reads as it did. -/
def fnExactEncodeRowSpec : ChangeSpec := { name := "fnExactEncodeRow", fn := fun _ => fun
  | [d] => { results := [.lit (.bool true)], args := [d] }
  | _ => none }
def fnExactEncodeRowRow : OpenClaim := { program := "ytbajnecahojcfaa", sum := "e5455a3d4ccb2eb0be32dd40aabe6fdaac5b4490956cbdb0a225ca4f533240fe", func := "loop.example/g01917/laws.FnExactEncodeRow", spec := "fnExactEncodeRow", apart := false }
def FnExactEncodeRowSaid : Prop := fnExactEncodeRowRow.holds Try.pinned (OpenSpec.ofChange fnExactEncodeRowSpec)

/-- ITS FALSE NEIGHBOUR: 'it returns false'. Refute it at one input. -/
def fnExactEncodeRowWrong : ChangeSpec := { name := "fnExactEncodeRow", fn := fun _ => fun
  | [d] => { results := [.lit (.bool false)], args := [d] }
  | _ => none }
def FnExactEncodeRowWrongFalsely : Prop := fnExactEncodeRowRow.holds Try.pinned (OpenSpec.ofChange fnExactEncodeRowWrong)

/-- 'laws.FnExactDecodeRow': WHATEVER THE INPUT: true; the input reads as it did. -/
def fnExactDecodeRowSpec : ChangeSpec := { name := "fnExactDecodeRow", fn := fun _ => fun
  | [d1, d2] => { results := [.lit (.bool true)], args := [d1, d2] }
  | _ => none }
def fnExactDecodeRowRow : OpenClaim := { program := "ytbajnecahojcfaa", sum := "e5455a3d4ccb2eb0be32dd40aabe6fdaac5b4490956cbdb0a225ca4f533240fe", func := "loop.example/g01917/laws.FnExactDecodeRow", spec := "fnExactDecodeRow", apart := false }
def FnExactDecodeRowSaid : Prop := fnExactDecodeRowRow.holds Try.pinned (OpenSpec.ofChange fnExactDecodeRowSpec)

/-- ITS FALSE NEIGHBOUR: 'it returns false'. Refute it at one input. -/
def fnExactDecodeRowWrong : ChangeSpec := { name := "fnExactDecodeRow", fn := fun _ => fun
  | [d1, d2] => { results := [.lit (.bool false)], args := [d1, d2] }
  | _ => none }
def FnExactDecodeRowWrongFalsely : Prop := fnExactDecodeRowRow.holds Try.pinned (OpenSpec.ofChange fnExactDecodeRowWrong)

/-- 'laws.FnRowEncoding': WHATEVER THE INPUT: true; the input reads as it did. -/
def fnRowEncodingSpec : ChangeSpec := { name := "fnRowEncoding", fn := fun _ => fun
  | [d] => { results := [.lit (.bool true)], args := [d] }
  | _ => none }
def fnRowEncodingRow : OpenClaim := { program := "ytbajnecahojcfaa", sum := "e5455a3d4ccb2eb0be32dd40aabe6fdaac5b4490956cbdb0a225ca4f533240fe", func := "loop.example/g01917/laws.FnRowEncoding", spec := "fnRowEncoding", apart := false }
def FnRowEncodingSaid : Prop := fnRowEncodingRow.holds Try.pinned (OpenSpec.ofChange fnRowEncodingSpec)

/-- ITS FALSE NEIGHBOUR: 'it returns false'. Refute it at one input. -/
def fnRowEncodingWrong : ChangeSpec := { name := "fnRowEncoding", fn := fun _ => fun
  | [d] => { results := [.lit (.bool false)], args := [d] }
  | _ => none }
def FnRowEncodingWrongFalsely : Prop := fnRowEncodingRow.holds Try.pinned (OpenSpec.ofChange fnRowEncodingWrong)

/-- 'laws.FnExactParseRelation': WHATEVER THE INPUT: true; the input reads as it did. -/
def fnExactParseRelationSpec : ChangeSpec := { name := "fnExactParseRelation", fn := fun _ => fun
  | [d] => { results := [.lit (.bool true)], args := [d] }
  | _ => none }
def fnExactParseRelationRow : OpenClaim := { program := "ytbajnecahojcfaa", sum := "e5455a3d4ccb2eb0be32dd40aabe6fdaac5b4490956cbdb0a225ca4f533240fe", func := "loop.example/g01917/laws.FnExactParseRelation", spec := "fnExactParseRelation", apart := false }
def FnExactParseRelationSaid : Prop := fnExactParseRelationRow.holds Try.pinned (OpenSpec.ofChange fnExactParseRelationSpec)

/-- ITS FALSE NEIGHBOUR: 'it returns false'. Refute it at one input. -/
def fnExactParseRelationWrong : ChangeSpec := { name := "fnExactParseRelation", fn := fun _ => fun
  | [d] => { results := [.lit (.bool false)], args := [d] }
  | _ => none }
def FnExactParseRelationWrongFalsely : Prop := fnExactParseRelationRow.holds Try.pinned (OpenSpec.ofChange fnExactParseRelationWrong)

/-- 'laws.FnTables': WHATEVER THE INPUT: true; the input reads as it did. -/
def fnTablesSpec : ChangeSpec := { name := "fnTables", fn := fun _ => fun
  | [d] => { results := [.lit (.bool true)], args := [d] }
  | _ => none }
def fnTablesRow : OpenClaim := { program := "ytbajnecahojcfaa", sum := "e5455a3d4ccb2eb0be32dd40aabe6fdaac5b4490956cbdb0a225ca4f533240fe", func := "loop.example/g01917/laws.FnTables", spec := "fnTables", recurses := true, apart := false }
def FnTablesSaid : Prop := fnTablesRow.holds Try.pinned (OpenSpec.ofChange fnTablesSpec)

/-- ITS FALSE NEIGHBOUR: 'it returns false'. Refute it at one input. -/
def fnTablesWrong : ChangeSpec := { name := "fnTables", fn := fun _ => fun
  | [d] => { results := [.lit (.bool false)], args := [d] }
  | _ => none }
def FnTablesWrongFalsely : Prop := fnTablesRow.holds Try.pinned (OpenSpec.ofChange fnTablesWrong)

/-- 'laws.FnExactLookupRelation': WHATEVER THE INPUT: true; the input reads as it did. -/
def fnExactLookupRelationSpec : ChangeSpec := { name := "fnExactLookupRelation", fn := fun _ => fun
  | [d1, d2] => { results := [.lit (.bool true)], args := [d1, d2] }
  | _ => none }
def fnExactLookupRelationRow : OpenClaim := { program := "ytbajnecahojcfaa", sum := "e5455a3d4ccb2eb0be32dd40aabe6fdaac5b4490956cbdb0a225ca4f533240fe", func := "loop.example/g01917/laws.FnExactLookupRelation", spec := "fnExactLookupRelation", apart := false }
def FnExactLookupRelationSaid : Prop := fnExactLookupRelationRow.holds Try.pinned (OpenSpec.ofChange fnExactLookupRelationSpec)

/-- ITS FALSE NEIGHBOUR: 'it returns false'. Refute it at one input. -/
def fnExactLookupRelationWrong : ChangeSpec := { name := "fnExactLookupRelation", fn := fun _ => fun
  | [d1, d2] => { results := [.lit (.bool false)], args := [d1, d2] }
  | _ => none }
def FnExactLookupRelationWrongFalsely : Prop := fnExactLookupRelationRow.holds Try.pinned (OpenSpec.ofChange fnExactLookupRelationWrong)

/-- 'laws.FnExactEqualRelations': WHATEVER THE INPUT: true; the input reads as it did. -/
def fnExactEqualRelationsSpec : ChangeSpec := { name := "fnExactEqualRelations", fn := fun _ => fun
  | [d1, d2] => { results := [.lit (.bool true)], args := [d1, d2] }
  | _ => none }
def fnExactEqualRelationsRow : OpenClaim := { program := "ytbajnecahojcfaa", sum := "e5455a3d4ccb2eb0be32dd40aabe6fdaac5b4490956cbdb0a225ca4f533240fe", func := "loop.example/g01917/laws.FnExactEqualRelations", spec := "fnExactEqualRelations", apart := false }
def FnExactEqualRelationsSaid : Prop := fnExactEqualRelationsRow.holds Try.pinned (OpenSpec.ofChange fnExactEqualRelationsSpec)

/-- ITS FALSE NEIGHBOUR: 'it returns false'. Refute it at one input. -/
def fnExactEqualRelationsWrong : ChangeSpec := { name := "fnExactEqualRelations", fn := fun _ => fun
  | [d1, d2] => { results := [.lit (.bool false)], args := [d1, d2] }
  | _ => none }
def FnExactEqualRelationsWrongFalsely : Prop := fnExactEqualRelationsRow.holds Try.pinned (OpenSpec.ofChange fnExactEqualRelationsWrong)

/-- 'laws.FnExactIsValidRelation': WHATEVER THE INPUT: true; the input reads as it did. -/
def fnExactIsValidRelationSpec : ChangeSpec := { name := "fnExactIsValidRelation", fn := fun _ => fun
  | [d] => { results := [.lit (.bool true)], args := [d] }
  | _ => none }
def fnExactIsValidRelationRow : OpenClaim := { program := "ytbajnecahojcfaa", sum := "e5455a3d4ccb2eb0be32dd40aabe6fdaac5b4490956cbdb0a225ca4f533240fe", func := "loop.example/g01917/laws.FnExactIsValidRelation", spec := "fnExactIsValidRelation", apart := false }
def FnExactIsValidRelationSaid : Prop := fnExactIsValidRelationRow.holds Try.pinned (OpenSpec.ofChange fnExactIsValidRelationSpec)

/-- ITS FALSE NEIGHBOUR: 'it returns false'. Refute it at one input. -/
def fnExactIsValidRelationWrong : ChangeSpec := { name := "fnExactIsValidRelation", fn := fun _ => fun
  | [d] => { results := [.lit (.bool false)], args := [d] }
  | _ => none }
def FnExactIsValidRelationWrongFalsely : Prop := fnExactIsValidRelationRow.holds Try.pinned (OpenSpec.ofChange fnExactIsValidRelationWrong)

/-- 'laws.FnExactContainsRow': WHATEVER THE INPUT: true; the input reads as it did. -/
def fnExactContainsRowSpec : ChangeSpec := { name := "fnExactContainsRow", fn := fun _ => fun
  | [d1, d2] => { results := [.lit (.bool true)], args := [d1, d2] }
  | _ => none }
def fnExactContainsRowRow : OpenClaim := { program := "ytbajnecahojcfaa", sum := "e5455a3d4ccb2eb0be32dd40aabe6fdaac5b4490956cbdb0a225ca4f533240fe", func := "loop.example/g01917/laws.FnExactContainsRow", spec := "fnExactContainsRow", apart := false }
def FnExactContainsRowSaid : Prop := fnExactContainsRowRow.holds Try.pinned (OpenSpec.ofChange fnExactContainsRowSpec)

/-- ITS FALSE NEIGHBOUR: 'it returns false'. Refute it at one input. -/
def fnExactContainsRowWrong : ChangeSpec := { name := "fnExactContainsRow", fn := fun _ => fun
  | [d1, d2] => { results := [.lit (.bool false)], args := [d1, d2] }
  | _ => none }
def FnExactContainsRowWrongFalsely : Prop := fnExactContainsRowRow.holds Try.pinned (OpenSpec.ofChange fnExactContainsRowWrong)

/-- 'laws.FnExactEqualDatabases': WHATEVER THE INPUT: true; the input reads as it did. -/
def fnExactEqualDatabasesSpec : ChangeSpec := { name := "fnExactEqualDatabases", fn := fun _ => fun
  | [d1, d2] => { results := [.lit (.bool true)], args := [d1, d2] }
  | _ => none }
def fnExactEqualDatabasesRow : OpenClaim := { program := "ytbajnecahojcfaa", sum := "e5455a3d4ccb2eb0be32dd40aabe6fdaac5b4490956cbdb0a225ca4f533240fe", func := "loop.example/g01917/laws.FnExactEqualDatabases", spec := "fnExactEqualDatabases", apart := false }
def FnExactEqualDatabasesSaid : Prop := fnExactEqualDatabasesRow.holds Try.pinned (OpenSpec.ofChange fnExactEqualDatabasesSpec)

/-- ITS FALSE NEIGHBOUR: 'it returns false'. Refute it at one input. -/
def fnExactEqualDatabasesWrong : ChangeSpec := { name := "fnExactEqualDatabases", fn := fun _ => fun
  | [d1, d2] => { results := [.lit (.bool false)], args := [d1, d2] }
  | _ => none }
def FnExactEqualDatabasesWrongFalsely : Prop := fnExactEqualDatabasesRow.holds Try.pinned (OpenSpec.ofChange fnExactEqualDatabasesWrong)

/-- 'laws.FnExactFormatRelation': WHATEVER THE INPUT: true; the input reads as it did. -/
def fnExactFormatRelationSpec : ChangeSpec := { name := "fnExactFormatRelation", fn := fun _ => fun
  | [d] => { results := [.lit (.bool true)], args := [d] }
  | _ => none }
def fnExactFormatRelationRow : OpenClaim := { program := "ytbajnecahojcfaa", sum := "e5455a3d4ccb2eb0be32dd40aabe6fdaac5b4490956cbdb0a225ca4f533240fe", func := "loop.example/g01917/laws.FnExactFormatRelation", spec := "fnExactFormatRelation", apart := false }
def FnExactFormatRelationSaid : Prop := fnExactFormatRelationRow.holds Try.pinned (OpenSpec.ofChange fnExactFormatRelationSpec)

/-- ITS FALSE NEIGHBOUR: 'it returns false'. Refute it at one input. -/
def fnExactFormatRelationWrong : ChangeSpec := { name := "fnExactFormatRelation", fn := fun _ => fun
  | [d] => { results := [.lit (.bool false)], args := [d] }
  | _ => none }
def FnExactFormatRelationWrongFalsely : Prop := fnExactFormatRelationRow.holds Try.pinned (OpenSpec.ofChange fnExactFormatRelationWrong)

/-- 'laws.FnExactDifference': WHATEVER THE INPUT: true; the input reads as it did. -/
def fnExactDifferenceSpec : ChangeSpec := { name := "fnExactDifference", fn := fun _ => fun
  | [d1, d2] => { results := [.lit (.bool true)], args := [d1, d2] }
  | _ => none }
def fnExactDifferenceRow : OpenClaim := { program := "ytbajnecahojcfaa", sum := "e5455a3d4ccb2eb0be32dd40aabe6fdaac5b4490956cbdb0a225ca4f533240fe", func := "loop.example/g01917/laws.FnExactDifference", spec := "fnExactDifference", apart := false }
def FnExactDifferenceSaid : Prop := fnExactDifferenceRow.holds Try.pinned (OpenSpec.ofChange fnExactDifferenceSpec)

/-- ITS FALSE NEIGHBOUR: 'it returns false'. Refute it at one input. -/
def fnExactDifferenceWrong : ChangeSpec := { name := "fnExactDifference", fn := fun _ => fun
  | [d1, d2] => { results := [.lit (.bool false)], args := [d1, d2] }
  | _ => none }
def FnExactDifferenceWrongFalsely : Prop := fnExactDifferenceRow.holds Try.pinned (OpenSpec.ofChange fnExactDifferenceWrong)

/-- 'laws.FnNewRelation': WHATEVER THE INPUT: true; the input reads as it did. -/
def fnNewRelationSpec : ChangeSpec := { name := "fnNewRelation", fn := fun _ => fun
  | [d] => { results := [.lit (.bool true)], args := [d] }
  | _ => none }
def fnNewRelationRow : OpenClaim := { program := "ytbajnecahojcfaa", sum := "e5455a3d4ccb2eb0be32dd40aabe6fdaac5b4490956cbdb0a225ca4f533240fe", func := "loop.example/g01917/laws.FnNewRelation", spec := "fnNewRelation", recurses := true, apart := false }
def FnNewRelationSaid : Prop := fnNewRelationRow.holds Try.pinned (OpenSpec.ofChange fnNewRelationSpec)

/-- ITS FALSE NEIGHBOUR: 'it returns false'. Refute it at one input. -/
def fnNewRelationWrong : ChangeSpec := { name := "fnNewRelation", fn := fun _ => fun
  | [d] => { results := [.lit (.bool false)], args := [d] }
  | _ => none }
def FnNewRelationWrongFalsely : Prop := fnNewRelationRow.holds Try.pinned (OpenSpec.ofChange fnNewRelationWrong)

/-- 'laws.FnExactInsertRow': WHATEVER THE INPUT: true; the input reads as it did. -/
def fnExactInsertRowSpec : ChangeSpec := { name := "fnExactInsertRow", fn := fun _ => fun
  | [d1, d2] => { results := [.lit (.bool true)], args := [d1, d2] }
  | _ => none }
def fnExactInsertRowRow : OpenClaim := { program := "ytbajnecahojcfaa", sum := "e5455a3d4ccb2eb0be32dd40aabe6fdaac5b4490956cbdb0a225ca4f533240fe", func := "loop.example/g01917/laws.FnExactInsertRow", spec := "fnExactInsertRow", apart := false }
def FnExactInsertRowSaid : Prop := fnExactInsertRowRow.holds Try.pinned (OpenSpec.ofChange fnExactInsertRowSpec)

/-- ITS FALSE NEIGHBOUR: 'it returns false'. Refute it at one input. -/
def fnExactInsertRowWrong : ChangeSpec := { name := "fnExactInsertRow", fn := fun _ => fun
  | [d1, d2] => { results := [.lit (.bool false)], args := [d1, d2] }
  | _ => none }
def FnExactInsertRowWrongFalsely : Prop := fnExactInsertRowRow.holds Try.pinned (OpenSpec.ofChange fnExactInsertRowWrong)

/-- 'laws.FnExactDeleteRow': WHATEVER THE INPUT: true; the input reads as it did. -/
def fnExactDeleteRowSpec : ChangeSpec := { name := "fnExactDeleteRow", fn := fun _ => fun
  | [d1, d2] => { results := [.lit (.bool true)], args := [d1, d2] }
  | _ => none }
def fnExactDeleteRowRow : OpenClaim := { program := "ytbajnecahojcfaa", sum := "e5455a3d4ccb2eb0be32dd40aabe6fdaac5b4490956cbdb0a225ca4f533240fe", func := "loop.example/g01917/laws.FnExactDeleteRow", spec := "fnExactDeleteRow", apart := false }
def FnExactDeleteRowSaid : Prop := fnExactDeleteRowRow.holds Try.pinned (OpenSpec.ofChange fnExactDeleteRowSpec)

/-- ITS FALSE NEIGHBOUR: 'it returns false'. Refute it at one input. -/
def fnExactDeleteRowWrong : ChangeSpec := { name := "fnExactDeleteRow", fn := fun _ => fun
  | [d1, d2] => { results := [.lit (.bool false)], args := [d1, d2] }
  | _ => none }
def FnExactDeleteRowWrongFalsely : Prop := fnExactDeleteRowRow.holds Try.pinned (OpenSpec.ofChange fnExactDeleteRowWrong)

/-- 'laws.FnExactIsValidDatabase': WHATEVER THE INPUT: true; the input reads as it did. -/
def fnExactIsValidDatabaseSpec : ChangeSpec := { name := "fnExactIsValidDatabase", fn := fun _ => fun
  | [d] => { results := [.lit (.bool true)], args := [d] }
  | _ => none }
def fnExactIsValidDatabaseRow : OpenClaim := { program := "ytbajnecahojcfaa", sum := "e5455a3d4ccb2eb0be32dd40aabe6fdaac5b4490956cbdb0a225ca4f533240fe", func := "loop.example/g01917/laws.FnExactIsValidDatabase", spec := "fnExactIsValidDatabase", apart := false }
def FnExactIsValidDatabaseSaid : Prop := fnExactIsValidDatabaseRow.holds Try.pinned (OpenSpec.ofChange fnExactIsValidDatabaseSpec)

/-- ITS FALSE NEIGHBOUR: 'it returns false'. Refute it at one input. -/
def fnExactIsValidDatabaseWrong : ChangeSpec := { name := "fnExactIsValidDatabase", fn := fun _ => fun
  | [d] => { results := [.lit (.bool false)], args := [d] }
  | _ => none }
def FnExactIsValidDatabaseWrongFalsely : Prop := fnExactIsValidDatabaseRow.holds Try.pinned (OpenSpec.ofChange fnExactIsValidDatabaseWrong)

/-- 'laws.FnExactNewRelation': WHATEVER THE INPUT: true; the input reads as it did. -/
def fnExactNewRelationSpec : ChangeSpec := { name := "fnExactNewRelation", fn := fun _ => fun
  | [d1, d2] => { results := [.lit (.bool true)], args := [d1, d2] }
  | _ => none }
def fnExactNewRelationRow : OpenClaim := { program := "ytbajnecahojcfaa", sum := "e5455a3d4ccb2eb0be32dd40aabe6fdaac5b4490956cbdb0a225ca4f533240fe", func := "loop.example/g01917/laws.FnExactNewRelation", spec := "fnExactNewRelation", recurses := true, apart := false }
def FnExactNewRelationSaid : Prop := fnExactNewRelationRow.holds Try.pinned (OpenSpec.ofChange fnExactNewRelationSpec)

/-- ITS FALSE NEIGHBOUR: 'it returns false'. Refute it at one input. -/
def fnExactNewRelationWrong : ChangeSpec := { name := "fnExactNewRelation", fn := fun _ => fun
  | [d1, d2] => { results := [.lit (.bool false)], args := [d1, d2] }
  | _ => none }
def FnExactNewRelationWrongFalsely : Prop := fnExactNewRelationRow.holds Try.pinned (OpenSpec.ofChange fnExactNewRelationWrong)

/-- 'laws.FnSetOperations': WHATEVER THE INPUT: true; the input reads as it did. -/
def fnSetOperationsSpec : ChangeSpec := { name := "fnSetOperations", fn := fun _ => fun
  | [d] => { results := [.lit (.bool true)], args := [d] }
  | _ => none }
def fnSetOperationsRow : OpenClaim := { program := "ytbajnecahojcfaa", sum := "e5455a3d4ccb2eb0be32dd40aabe6fdaac5b4490956cbdb0a225ca4f533240fe", func := "loop.example/g01917/laws.FnSetOperations", spec := "fnSetOperations", recurses := true, apart := false }
def FnSetOperationsSaid : Prop := fnSetOperationsRow.holds Try.pinned (OpenSpec.ofChange fnSetOperationsSpec)

/-- ITS FALSE NEIGHBOUR: 'it returns false'. Refute it at one input. -/
def fnSetOperationsWrong : ChangeSpec := { name := "fnSetOperations", fn := fun _ => fun
  | [d] => { results := [.lit (.bool false)], args := [d] }
  | _ => none }
def FnSetOperationsWrongFalsely : Prop := fnSetOperationsRow.holds Try.pinned (OpenSpec.ofChange fnSetOperationsWrong)

/-- 'laws.FnInsertDelete': WHATEVER THE INPUT: true; the input reads as it did. -/
def fnInsertDeleteSpec : ChangeSpec := { name := "fnInsertDelete", fn := fun _ => fun
  | [d] => { results := [.lit (.bool true)], args := [d] }
  | _ => none }
def fnInsertDeleteRow : OpenClaim := { program := "ytbajnecahojcfaa", sum := "e5455a3d4ccb2eb0be32dd40aabe6fdaac5b4490956cbdb0a225ca4f533240fe", func := "loop.example/g01917/laws.FnInsertDelete", spec := "fnInsertDelete", recurses := true, apart := false }
def FnInsertDeleteSaid : Prop := fnInsertDeleteRow.holds Try.pinned (OpenSpec.ofChange fnInsertDeleteSpec)

/-- ITS FALSE NEIGHBOUR: 'it returns false'. Refute it at one input. -/
def fnInsertDeleteWrong : ChangeSpec := { name := "fnInsertDelete", fn := fun _ => fun
  | [d] => { results := [.lit (.bool false)], args := [d] }
  | _ => none }
def FnInsertDeleteWrongFalsely : Prop := fnInsertDeleteRow.holds Try.pinned (OpenSpec.ofChange fnInsertDeleteWrong)

/-- 'laws.FnExactUnion': WHATEVER THE INPUT: true; the input reads as it did. -/
def fnExactUnionSpec : ChangeSpec := { name := "fnExactUnion", fn := fun _ => fun
  | [d1, d2] => { results := [.lit (.bool true)], args := [d1, d2] }
  | _ => none }
def fnExactUnionRow : OpenClaim := { program := "ytbajnecahojcfaa", sum := "e5455a3d4ccb2eb0be32dd40aabe6fdaac5b4490956cbdb0a225ca4f533240fe", func := "loop.example/g01917/laws.FnExactUnion", spec := "fnExactUnion", recurses := true, apart := false }
def FnExactUnionSaid : Prop := fnExactUnionRow.holds Try.pinned (OpenSpec.ofChange fnExactUnionSpec)

/-- ITS FALSE NEIGHBOUR: 'it returns false'. Refute it at one input. -/
def fnExactUnionWrong : ChangeSpec := { name := "fnExactUnion", fn := fun _ => fun
  | [d1, d2] => { results := [.lit (.bool false)], args := [d1, d2] }
  | _ => none }
def FnExactUnionWrongFalsely : Prop := fnExactUnionRow.holds Try.pinned (OpenSpec.ofChange fnExactUnionWrong)

/-- 'laws.FnProjection': WHATEVER THE INPUT: true; the input reads as it did. -/
def fnProjectionSpec : ChangeSpec := { name := "fnProjection", fn := fun _ => fun
  | [d] => { results := [.lit (.bool true)], args := [d] }
  | _ => none }
def fnProjectionRow : OpenClaim := { program := "ytbajnecahojcfaa", sum := "e5455a3d4ccb2eb0be32dd40aabe6fdaac5b4490956cbdb0a225ca4f533240fe", func := "loop.example/g01917/laws.FnProjection", spec := "fnProjection", recurses := true, apart := false }
def FnProjectionSaid : Prop := fnProjectionRow.holds Try.pinned (OpenSpec.ofChange fnProjectionSpec)

/-- ITS FALSE NEIGHBOUR: 'it returns false'. Refute it at one input. -/
def fnProjectionWrong : ChangeSpec := { name := "fnProjection", fn := fun _ => fun
  | [d] => { results := [.lit (.bool false)], args := [d] }
  | _ => none }
def FnProjectionWrongFalsely : Prop := fnProjectionRow.holds Try.pinned (OpenSpec.ofChange fnProjectionWrong)

/-- 'laws.FnExactProject': WHATEVER THE INPUT: true; the input reads as it did. -/
def fnExactProjectSpec : ChangeSpec := { name := "fnExactProject", fn := fun _ => fun
  | [d1, d2] => { results := [.lit (.bool true)], args := [d1, d2] }
  | _ => none }
def fnExactProjectRow : OpenClaim := { program := "ytbajnecahojcfaa", sum := "e5455a3d4ccb2eb0be32dd40aabe6fdaac5b4490956cbdb0a225ca4f533240fe", func := "loop.example/g01917/laws.FnExactProject", spec := "fnExactProject", recurses := true, apart := false }
def FnExactProjectSaid : Prop := fnExactProjectRow.holds Try.pinned (OpenSpec.ofChange fnExactProjectSpec)

/-- ITS FALSE NEIGHBOUR: 'it returns false'. Refute it at one input. -/
def fnExactProjectWrong : ChangeSpec := { name := "fnExactProject", fn := fun _ => fun
  | [d1, d2] => { results := [.lit (.bool false)], args := [d1, d2] }
  | _ => none }
def FnExactProjectWrongFalsely : Prop := fnExactProjectRow.holds Try.pinned (OpenSpec.ofChange fnExactProjectWrong)

/- THE SECOND FORM. 'bulk': how many values and letters a reading holds, each counted each time it is reached (what is shared counts as often as it is met; a slice's spare places count too). A statement '..UptoSaid' is the law's where the arguments, and the package variables that the reading takes, are together of bulk at most 1048576: NARROWER than '..Said'. Prove '..Said' where nothing that the law and all that it calls make is longer than what came in: it says more and counts as full. Else prove '..UptoSaid'. A law counts once. -/
mutual
def uptoBulk {H : Type} : DataW H → Nat
  | .lit (.string bytes) => bytes.length + 1
  | .lit _ => 1
  | .nil => 1
  | .ptr d => uptoBulk d + 1
  | .slice elems spare => uptoBulkAll elems + uptoBulkAll spare + 1
  | .agg parts => uptoBulkAll parts + 1
  | .iface _ d => uptoBulk d + 1
  | .map entries => uptoBulkEntries entries + 1
  | .held _ => 1
def uptoBulkAll {H : Type} : List (DataW H) → Nat
  | [] => 0
  | d :: r => uptoBulk d + uptoBulkAll r
def uptoBulkEntries {H : Type} : List (Lit × DataW H) → Nat
  | [] => 0
  | x :: r => uptoBulkEntry x + uptoBulkEntries r
def uptoBulkEntry {H : Type} : Lit × DataW H → Nat
  | (.string bytes, d) => bytes.length + uptoBulk d + 1
  | (_, d) => uptoBulk d + 1
 end
def uptoSmall : (H : Type) → List (DataW H) → Bool := fun _ ds => decide (uptoBulkAll ds ≤ 1048576)
def OpenSpec.upto (s : _root_.Go.ChangeSpec) : _root_.Go.OpenSpec := { _root_.Go.OpenSpec.ofChange s with cond := some uptoSmall }

/-- 'laws.FnExactAreValidValues', WHERE WHAT IT READS IS OF BULK AT MOST 1048576: true; the input reads as it did. -/
def fnExactAreValidValuesUptoRow : OpenClaim := { program := "ytbajnecahojcfaa", sum := "e5455a3d4ccb2eb0be32dd40aabe6fdaac5b4490956cbdb0a225ca4f533240fe", func := "loop.example/g01917/laws.FnExactAreValidValues", spec := "fnExactAreValidValues", apart := false, narrowed := true }
def FnExactAreValidValuesUptoSaid : Prop := fnExactAreValidValuesUptoRow.holds Try.pinned (OpenSpec.upto fnExactAreValidValuesSpec)

/-- 'laws.FnExactCompareRows', WHERE WHAT IT READS IS OF BULK AT MOST 1048576: true; the input reads as it did. -/
def fnExactCompareRowsUptoRow : OpenClaim := { program := "ytbajnecahojcfaa", sum := "e5455a3d4ccb2eb0be32dd40aabe6fdaac5b4490956cbdb0a225ca4f533240fe", func := "loop.example/g01917/laws.FnExactCompareRows", spec := "fnExactCompareRows", apart := false, narrowed := true }
def FnExactCompareRowsUptoSaid : Prop := fnExactCompareRowsUptoRow.holds Try.pinned (OpenSpec.upto fnExactCompareRowsSpec)

/-- 'laws.FnExactEncodeRow', WHERE WHAT IT READS IS OF BULK AT MOST 1048576: true; the input reads as it did. -/
def fnExactEncodeRowUptoRow : OpenClaim := { program := "ytbajnecahojcfaa", sum := "e5455a3d4ccb2eb0be32dd40aabe6fdaac5b4490956cbdb0a225ca4f533240fe", func := "loop.example/g01917/laws.FnExactEncodeRow", spec := "fnExactEncodeRow", apart := false, narrowed := true }
def FnExactEncodeRowUptoSaid : Prop := fnExactEncodeRowUptoRow.holds Try.pinned (OpenSpec.upto fnExactEncodeRowSpec)

/-- 'laws.FnExactDecodeRow', WHERE WHAT IT READS IS OF BULK AT MOST 1048576: true; the input reads as it did. -/
def fnExactDecodeRowUptoRow : OpenClaim := { program := "ytbajnecahojcfaa", sum := "e5455a3d4ccb2eb0be32dd40aabe6fdaac5b4490956cbdb0a225ca4f533240fe", func := "loop.example/g01917/laws.FnExactDecodeRow", spec := "fnExactDecodeRow", apart := false, narrowed := true }
def FnExactDecodeRowUptoSaid : Prop := fnExactDecodeRowUptoRow.holds Try.pinned (OpenSpec.upto fnExactDecodeRowSpec)

/-- 'laws.FnRowEncoding', WHERE WHAT IT READS IS OF BULK AT MOST 1048576: true; the input reads as it did. -/
def fnRowEncodingUptoRow : OpenClaim := { program := "ytbajnecahojcfaa", sum := "e5455a3d4ccb2eb0be32dd40aabe6fdaac5b4490956cbdb0a225ca4f533240fe", func := "loop.example/g01917/laws.FnRowEncoding", spec := "fnRowEncoding", apart := false, narrowed := true }
def FnRowEncodingUptoSaid : Prop := fnRowEncodingUptoRow.holds Try.pinned (OpenSpec.upto fnRowEncodingSpec)

/-- 'laws.FnExactParseRelation', WHERE WHAT IT READS IS OF BULK AT MOST 1048576: true; the input reads as it did. -/
def fnExactParseRelationUptoRow : OpenClaim := { program := "ytbajnecahojcfaa", sum := "e5455a3d4ccb2eb0be32dd40aabe6fdaac5b4490956cbdb0a225ca4f533240fe", func := "loop.example/g01917/laws.FnExactParseRelation", spec := "fnExactParseRelation", apart := false, narrowed := true }
def FnExactParseRelationUptoSaid : Prop := fnExactParseRelationUptoRow.holds Try.pinned (OpenSpec.upto fnExactParseRelationSpec)

/-- 'laws.FnTables', WHERE WHAT IT READS IS OF BULK AT MOST 1048576: true; the input reads as it did. -/
def fnTablesUptoRow : OpenClaim := { program := "ytbajnecahojcfaa", sum := "e5455a3d4ccb2eb0be32dd40aabe6fdaac5b4490956cbdb0a225ca4f533240fe", func := "loop.example/g01917/laws.FnTables", spec := "fnTables", recurses := true, apart := false, narrowed := true }
def FnTablesUptoSaid : Prop := fnTablesUptoRow.holds Try.pinned (OpenSpec.upto fnTablesSpec)

/-- 'laws.FnExactLookupRelation', WHERE WHAT IT READS IS OF BULK AT MOST 1048576: true; the input reads as it did. -/
def fnExactLookupRelationUptoRow : OpenClaim := { program := "ytbajnecahojcfaa", sum := "e5455a3d4ccb2eb0be32dd40aabe6fdaac5b4490956cbdb0a225ca4f533240fe", func := "loop.example/g01917/laws.FnExactLookupRelation", spec := "fnExactLookupRelation", apart := false, narrowed := true }
def FnExactLookupRelationUptoSaid : Prop := fnExactLookupRelationUptoRow.holds Try.pinned (OpenSpec.upto fnExactLookupRelationSpec)

/-- 'laws.FnExactEqualRelations', WHERE WHAT IT READS IS OF BULK AT MOST 1048576: true; the input reads as it did. -/
def fnExactEqualRelationsUptoRow : OpenClaim := { program := "ytbajnecahojcfaa", sum := "e5455a3d4ccb2eb0be32dd40aabe6fdaac5b4490956cbdb0a225ca4f533240fe", func := "loop.example/g01917/laws.FnExactEqualRelations", spec := "fnExactEqualRelations", apart := false, narrowed := true }
def FnExactEqualRelationsUptoSaid : Prop := fnExactEqualRelationsUptoRow.holds Try.pinned (OpenSpec.upto fnExactEqualRelationsSpec)

/-- 'laws.FnExactIsValidRelation', WHERE WHAT IT READS IS OF BULK AT MOST 1048576: true; the input reads as it did. -/
def fnExactIsValidRelationUptoRow : OpenClaim := { program := "ytbajnecahojcfaa", sum := "e5455a3d4ccb2eb0be32dd40aabe6fdaac5b4490956cbdb0a225ca4f533240fe", func := "loop.example/g01917/laws.FnExactIsValidRelation", spec := "fnExactIsValidRelation", apart := false, narrowed := true }
def FnExactIsValidRelationUptoSaid : Prop := fnExactIsValidRelationUptoRow.holds Try.pinned (OpenSpec.upto fnExactIsValidRelationSpec)

/-- 'laws.FnExactContainsRow', WHERE WHAT IT READS IS OF BULK AT MOST 1048576: true; the input reads as it did. -/
def fnExactContainsRowUptoRow : OpenClaim := { program := "ytbajnecahojcfaa", sum := "e5455a3d4ccb2eb0be32dd40aabe6fdaac5b4490956cbdb0a225ca4f533240fe", func := "loop.example/g01917/laws.FnExactContainsRow", spec := "fnExactContainsRow", apart := false, narrowed := true }
def FnExactContainsRowUptoSaid : Prop := fnExactContainsRowUptoRow.holds Try.pinned (OpenSpec.upto fnExactContainsRowSpec)

/-- 'laws.FnExactEqualDatabases', WHERE WHAT IT READS IS OF BULK AT MOST 1048576: true; the input reads as it did. -/
def fnExactEqualDatabasesUptoRow : OpenClaim := { program := "ytbajnecahojcfaa", sum := "e5455a3d4ccb2eb0be32dd40aabe6fdaac5b4490956cbdb0a225ca4f533240fe", func := "loop.example/g01917/laws.FnExactEqualDatabases", spec := "fnExactEqualDatabases", apart := false, narrowed := true }
def FnExactEqualDatabasesUptoSaid : Prop := fnExactEqualDatabasesUptoRow.holds Try.pinned (OpenSpec.upto fnExactEqualDatabasesSpec)

/-- 'laws.FnExactFormatRelation', WHERE WHAT IT READS IS OF BULK AT MOST 1048576: true; the input reads as it did. -/
def fnExactFormatRelationUptoRow : OpenClaim := { program := "ytbajnecahojcfaa", sum := "e5455a3d4ccb2eb0be32dd40aabe6fdaac5b4490956cbdb0a225ca4f533240fe", func := "loop.example/g01917/laws.FnExactFormatRelation", spec := "fnExactFormatRelation", apart := false, narrowed := true }
def FnExactFormatRelationUptoSaid : Prop := fnExactFormatRelationUptoRow.holds Try.pinned (OpenSpec.upto fnExactFormatRelationSpec)

/-- 'laws.FnExactDifference', WHERE WHAT IT READS IS OF BULK AT MOST 1048576: true; the input reads as it did. -/
def fnExactDifferenceUptoRow : OpenClaim := { program := "ytbajnecahojcfaa", sum := "e5455a3d4ccb2eb0be32dd40aabe6fdaac5b4490956cbdb0a225ca4f533240fe", func := "loop.example/g01917/laws.FnExactDifference", spec := "fnExactDifference", apart := false, narrowed := true }
def FnExactDifferenceUptoSaid : Prop := fnExactDifferenceUptoRow.holds Try.pinned (OpenSpec.upto fnExactDifferenceSpec)

/-- 'laws.FnNewRelation', WHERE WHAT IT READS IS OF BULK AT MOST 1048576: true; the input reads as it did. -/
def fnNewRelationUptoRow : OpenClaim := { program := "ytbajnecahojcfaa", sum := "e5455a3d4ccb2eb0be32dd40aabe6fdaac5b4490956cbdb0a225ca4f533240fe", func := "loop.example/g01917/laws.FnNewRelation", spec := "fnNewRelation", recurses := true, apart := false, narrowed := true }
def FnNewRelationUptoSaid : Prop := fnNewRelationUptoRow.holds Try.pinned (OpenSpec.upto fnNewRelationSpec)

/-- 'laws.FnExactInsertRow', WHERE WHAT IT READS IS OF BULK AT MOST 1048576: true; the input reads as it did. -/
def fnExactInsertRowUptoRow : OpenClaim := { program := "ytbajnecahojcfaa", sum := "e5455a3d4ccb2eb0be32dd40aabe6fdaac5b4490956cbdb0a225ca4f533240fe", func := "loop.example/g01917/laws.FnExactInsertRow", spec := "fnExactInsertRow", apart := false, narrowed := true }
def FnExactInsertRowUptoSaid : Prop := fnExactInsertRowUptoRow.holds Try.pinned (OpenSpec.upto fnExactInsertRowSpec)

/-- 'laws.FnExactDeleteRow', WHERE WHAT IT READS IS OF BULK AT MOST 1048576: true; the input reads as it did. -/
def fnExactDeleteRowUptoRow : OpenClaim := { program := "ytbajnecahojcfaa", sum := "e5455a3d4ccb2eb0be32dd40aabe6fdaac5b4490956cbdb0a225ca4f533240fe", func := "loop.example/g01917/laws.FnExactDeleteRow", spec := "fnExactDeleteRow", apart := false, narrowed := true }
def FnExactDeleteRowUptoSaid : Prop := fnExactDeleteRowUptoRow.holds Try.pinned (OpenSpec.upto fnExactDeleteRowSpec)

/-- 'laws.FnExactIsValidDatabase', WHERE WHAT IT READS IS OF BULK AT MOST 1048576: true; the input reads as it did. -/
def fnExactIsValidDatabaseUptoRow : OpenClaim := { program := "ytbajnecahojcfaa", sum := "e5455a3d4ccb2eb0be32dd40aabe6fdaac5b4490956cbdb0a225ca4f533240fe", func := "loop.example/g01917/laws.FnExactIsValidDatabase", spec := "fnExactIsValidDatabase", apart := false, narrowed := true }
def FnExactIsValidDatabaseUptoSaid : Prop := fnExactIsValidDatabaseUptoRow.holds Try.pinned (OpenSpec.upto fnExactIsValidDatabaseSpec)

/-- 'laws.FnExactNewRelation', WHERE WHAT IT READS IS OF BULK AT MOST 1048576: true; the input reads as it did. -/
def fnExactNewRelationUptoRow : OpenClaim := { program := "ytbajnecahojcfaa", sum := "e5455a3d4ccb2eb0be32dd40aabe6fdaac5b4490956cbdb0a225ca4f533240fe", func := "loop.example/g01917/laws.FnExactNewRelation", spec := "fnExactNewRelation", recurses := true, apart := false, narrowed := true }
def FnExactNewRelationUptoSaid : Prop := fnExactNewRelationUptoRow.holds Try.pinned (OpenSpec.upto fnExactNewRelationSpec)

/-- 'laws.FnSetOperations', WHERE WHAT IT READS IS OF BULK AT MOST 1048576: true; the input reads as it did. -/
def fnSetOperationsUptoRow : OpenClaim := { program := "ytbajnecahojcfaa", sum := "e5455a3d4ccb2eb0be32dd40aabe6fdaac5b4490956cbdb0a225ca4f533240fe", func := "loop.example/g01917/laws.FnSetOperations", spec := "fnSetOperations", recurses := true, apart := false, narrowed := true }
def FnSetOperationsUptoSaid : Prop := fnSetOperationsUptoRow.holds Try.pinned (OpenSpec.upto fnSetOperationsSpec)

/-- 'laws.FnInsertDelete', WHERE WHAT IT READS IS OF BULK AT MOST 1048576: true; the input reads as it did. -/
def fnInsertDeleteUptoRow : OpenClaim := { program := "ytbajnecahojcfaa", sum := "e5455a3d4ccb2eb0be32dd40aabe6fdaac5b4490956cbdb0a225ca4f533240fe", func := "loop.example/g01917/laws.FnInsertDelete", spec := "fnInsertDelete", recurses := true, apart := false, narrowed := true }
def FnInsertDeleteUptoSaid : Prop := fnInsertDeleteUptoRow.holds Try.pinned (OpenSpec.upto fnInsertDeleteSpec)

/-- 'laws.FnExactUnion', WHERE WHAT IT READS IS OF BULK AT MOST 1048576: true; the input reads as it did. -/
def fnExactUnionUptoRow : OpenClaim := { program := "ytbajnecahojcfaa", sum := "e5455a3d4ccb2eb0be32dd40aabe6fdaac5b4490956cbdb0a225ca4f533240fe", func := "loop.example/g01917/laws.FnExactUnion", spec := "fnExactUnion", recurses := true, apart := false, narrowed := true }
def FnExactUnionUptoSaid : Prop := fnExactUnionUptoRow.holds Try.pinned (OpenSpec.upto fnExactUnionSpec)

/-- 'laws.FnProjection', WHERE WHAT IT READS IS OF BULK AT MOST 1048576: true; the input reads as it did. -/
def fnProjectionUptoRow : OpenClaim := { program := "ytbajnecahojcfaa", sum := "e5455a3d4ccb2eb0be32dd40aabe6fdaac5b4490956cbdb0a225ca4f533240fe", func := "loop.example/g01917/laws.FnProjection", spec := "fnProjection", recurses := true, apart := false, narrowed := true }
def FnProjectionUptoSaid : Prop := fnProjectionUptoRow.holds Try.pinned (OpenSpec.upto fnProjectionSpec)

/-- 'laws.FnExactProject', WHERE WHAT IT READS IS OF BULK AT MOST 1048576: true; the input reads as it did. -/
def fnExactProjectUptoRow : OpenClaim := { program := "ytbajnecahojcfaa", sum := "e5455a3d4ccb2eb0be32dd40aabe6fdaac5b4490956cbdb0a225ca4f533240fe", func := "loop.example/g01917/laws.FnExactProject", spec := "fnExactProject", recurses := true, apart := false, narrowed := true }
def FnExactProjectUptoSaid : Prop := fnExactProjectUptoRow.holds Try.pinned (OpenSpec.upto fnExactProjectSpec)

end Rows
end Go.Proofs.Ytbajnecahojcfaa
