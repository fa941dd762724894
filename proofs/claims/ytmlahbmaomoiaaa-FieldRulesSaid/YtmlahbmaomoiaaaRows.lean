/-
  No cell of these rows narrows 'for every input' (looked for: loops, veiled, ifaces, maps, wideKeys, modest, calm, conditions, laid).
  DERIVED. THE GIVEN ROWS OF THIS SEAT. 13 by the template 'for every input the law returns true; each argument reads behind the call as it read before'; 0 by the template 'total and deterministic' (their statements: YtmlahbmaomoiaaaTotals.lean).
  GIVEN WITH THE SEED: the statements are not yours to turn. If you find one false, say at which input.
  Laid BY PROGRAM, IN A SANDBOX (cutbox-rows.mjs): the forced cells as the released guide's own fill.sh prints them over the translation 4368887e75e8bf38… (all of the seat's roots in one cut). By AI agents, Wed Nov 11 2026. No macro, syntax, notation, axiom, sorry.
-/
import Derived.Test.YtmlahbmaomoiaaaChecked
import GoSem.Claim
import GoSem.ClaimJoined
import GoSem.ClaimMapViews
import Derived.JoinedTies
import Derived.KernelRfl
namespace Go.Proofs.Ytmlahbmaomoiaaa
/- THE CELL 'sum', in the pinned program and in every row, IS THE sha256 OF THE DUMP (.gsa) THAT YtmlahbmaomoiaaaProg.lean LOADS. Nothing in Lean hashes anything: it is a label: what it is worth is what the hold of that sum in a sandbox is worth. -/
noncomputable def Try.pinned : Pinned := { name := "ytmlahbmaomoiaaa", sum := "4368887e75e8bf38e8b21e1f04b3d0d4bf07b726ce347d68a96b71e3f14a6dd9", checked := Try.checked }
namespace Rows
def none {H : Type} : Left H := { results := [], args := [] }

/-- 'bosunlaw01.FlashTears': WHATEVER THE INPUT: true; the input reads as it did. -/
def flashTearsSpec : ChangeSpec := { name := "flashTears", fn := fun _ => fun
  | [d1, d2, d3] => { results := [.lit (.bool true)], args := [d1, d2, d3] }
  | _ => none }
def flashTearsRow : OpenClaim := { program := "ytmlahbmaomoiaaa", sum := "4368887e75e8bf38e8b21e1f04b3d0d4bf07b726ce347d68a96b71e3f14a6dd9", func := "bosun/bosunlaw01.FlashTears", spec := "flashTears", apart := false }
def FlashTearsSaid : Prop := flashTearsRow.holds Try.pinned (OpenSpec.ofChange flashTearsSpec)

/-- ITS FALSE NEIGHBOUR: 'it returns false'. Refute it at one input. -/
def flashTearsWrong : ChangeSpec := { name := "flashTears", fn := fun _ => fun
  | [d1, d2, d3] => { results := [.lit (.bool false)], args := [d1, d2, d3] }
  | _ => none }
def FlashTearsWrongFalsely : Prop := flashTearsRow.holds Try.pinned (OpenSpec.ofChange flashTearsWrong)

/-- 'bosunlaw05.FieldPowers': WHATEVER THE INPUT: true; the input reads as it did. -/
def fieldPowersSpec : ChangeSpec := { name := "fieldPowers", fn := fun _ => fun
  | [d1, d2] => { results := [.lit (.bool true)], args := [d1, d2] }
  | _ => none }
def fieldPowersRow : OpenClaim := { program := "ytmlahbmaomoiaaa", sum := "4368887e75e8bf38e8b21e1f04b3d0d4bf07b726ce347d68a96b71e3f14a6dd9", func := "bosun/bosunlaw05.FieldPowers", spec := "fieldPowers", inPlace := ["math/bits.Add64", "math/bits.Sub64"], apart := false }
def FieldPowersSaid : Prop := fieldPowersRow.holds Try.pinned (OpenSpec.ofChange fieldPowersSpec)

/-- ITS FALSE NEIGHBOUR: 'it returns false'. Refute it at one input. -/
def fieldPowersWrong : ChangeSpec := { name := "fieldPowers", fn := fun _ => fun
  | [d1, d2] => { results := [.lit (.bool false)], args := [d1, d2] }
  | _ => none }
def FieldPowersWrongFalsely : Prop := fieldPowersRow.holds Try.pinned (OpenSpec.ofChange fieldPowersWrong)

/-- 'bosunlaw05.FieldRoots': WHATEVER THE INPUT: true; the input reads as it did. -/
def fieldRootsSpec : ChangeSpec := { name := "fieldRoots", fn := fun _ => fun
  | [d] => { results := [.lit (.bool true)], args := [d] }
  | _ => none }
def fieldRootsRow : OpenClaim := { program := "ytmlahbmaomoiaaa", sum := "4368887e75e8bf38e8b21e1f04b3d0d4bf07b726ce347d68a96b71e3f14a6dd9", func := "bosun/bosunlaw05.FieldRoots", spec := "fieldRoots", inPlace := ["math/bits.Add64", "math/bits.Sub64"], apart := false }
def FieldRootsSaid : Prop := fieldRootsRow.holds Try.pinned (OpenSpec.ofChange fieldRootsSpec)

/-- ITS FALSE NEIGHBOUR: 'it returns false'. Refute it at one input. -/
def fieldRootsWrong : ChangeSpec := { name := "fieldRoots", fn := fun _ => fun
  | [d] => { results := [.lit (.bool false)], args := [d] }
  | _ => none }
def FieldRootsWrongFalsely : Prop := fieldRootsRow.holds Try.pinned (OpenSpec.ofChange fieldRootsWrong)

/-- 'bosunlaw05.FieldSums': WHATEVER THE INPUT: true; the input reads as it did. -/
def fieldSumsSpec : ChangeSpec := { name := "fieldSums", fn := fun _ => fun
  | [d1, d2, d3] => { results := [.lit (.bool true)], args := [d1, d2, d3] }
  | _ => none }
def fieldSumsRow : OpenClaim := { program := "ytmlahbmaomoiaaa", sum := "4368887e75e8bf38e8b21e1f04b3d0d4bf07b726ce347d68a96b71e3f14a6dd9", func := "bosun/bosunlaw05.FieldSums", spec := "fieldSums", inPlace := ["math/bits.Add64", "math/bits.Sub64"], apart := false }
def FieldSumsSaid : Prop := fieldSumsRow.holds Try.pinned (OpenSpec.ofChange fieldSumsSpec)

/-- ITS FALSE NEIGHBOUR: 'it returns false'. Refute it at one input. -/
def fieldSumsWrong : ChangeSpec := { name := "fieldSums", fn := fun _ => fun
  | [d1, d2, d3] => { results := [.lit (.bool false)], args := [d1, d2, d3] }
  | _ => none }
def FieldSumsWrongFalsely : Prop := fieldSumsRow.holds Try.pinned (OpenSpec.ofChange fieldSumsWrong)

/-- 'bosunlaw05.FieldRules': WHATEVER THE INPUT: true; the input reads as it did. -/
def fieldRulesSpec : ChangeSpec := { name := "fieldRules", fn := fun _ => fun
  | [d1, d2, d3] => { results := [.lit (.bool true)], args := [d1, d2, d3] }
  | _ => none }
def fieldRulesRow : OpenClaim := { program := "ytmlahbmaomoiaaa", sum := "4368887e75e8bf38e8b21e1f04b3d0d4bf07b726ce347d68a96b71e3f14a6dd9", func := "bosun/bosunlaw05.FieldRules", spec := "fieldRules", inPlace := ["math/bits.Add64", "math/bits.Sub64"], apart := false }
def FieldRulesSaid : Prop := fieldRulesRow.holds Try.pinned (OpenSpec.ofChange fieldRulesSpec)

/-- ITS FALSE NEIGHBOUR: 'it returns false'. Refute it at one input. -/
def fieldRulesWrong : ChangeSpec := { name := "fieldRules", fn := fun _ => fun
  | [d1, d2, d3] => { results := [.lit (.bool false)], args := [d1, d2, d3] }
  | _ => none }
def FieldRulesWrongFalsely : Prop := fieldRulesRow.holds Try.pinned (OpenSpec.ofChange fieldRulesWrong)

/-- 'bosunlaw01.FlashNil': WHATEVER THE INPUT: true; the input reads as it did. -/
def flashNilSpec : ChangeSpec := { name := "flashNil", fn := fun _ => fun
  | [d1, d2] => { results := [.lit (.bool true)], args := [d1, d2] }
  | _ => none }
def flashNilRow : OpenClaim := { program := "ytmlahbmaomoiaaa", sum := "4368887e75e8bf38e8b21e1f04b3d0d4bf07b726ce347d68a96b71e3f14a6dd9", func := "bosun/bosunlaw01.FlashNil", spec := "flashNil", apart := false }
def FlashNilSaid : Prop := flashNilRow.holds Try.pinned (OpenSpec.ofChange flashNilSpec)

/-- ITS FALSE NEIGHBOUR: 'it returns false'. Refute it at one input. -/
def flashNilWrong : ChangeSpec := { name := "flashNil", fn := fun _ => fun
  | [d1, d2] => { results := [.lit (.bool false)], args := [d1, d2] }
  | _ => none }
def FlashNilWrongFalsely : Prop := flashNilRow.holds Try.pinned (OpenSpec.ofChange flashNilWrong)

/-- 'bosunlaw05.FieldBytes': WHATEVER THE INPUT: true; the input reads as it did. -/
def fieldBytesSpec : ChangeSpec := { name := "fieldBytes", fn := fun _ => fun
  | [d1, d2] => { results := [.lit (.bool true)], args := [d1, d2] }
  | _ => none }
def fieldBytesRow : OpenClaim := { program := "ytmlahbmaomoiaaa", sum := "4368887e75e8bf38e8b21e1f04b3d0d4bf07b726ce347d68a96b71e3f14a6dd9", func := "bosun/bosunlaw05.FieldBytes", spec := "fieldBytes", inPlace := ["math/bits.Add64", "math/bits.Sub64"], apart := false }
def FieldBytesSaid : Prop := fieldBytesRow.holds Try.pinned (OpenSpec.ofChange fieldBytesSpec)

/-- ITS FALSE NEIGHBOUR: 'it returns false'. Refute it at one input. -/
def fieldBytesWrong : ChangeSpec := { name := "fieldBytes", fn := fun _ => fun
  | [d1, d2] => { results := [.lit (.bool false)], args := [d1, d2] }
  | _ => none }
def FieldBytesWrongFalsely : Prop := fieldBytesRow.holds Try.pinned (OpenSpec.ofChange fieldBytesWrong)

/-- 'bosunlaw12.PacketMatches': WHATEVER THE INPUT: true; the input reads as it did. -/
def packetMatchesSpec : ChangeSpec := { name := "packetMatches", fn := fun _ => fun
  | [d1, d2, d3] => { results := [.lit (.bool true)], args := [d1, d2, d3] }
  | _ => none }
def packetMatchesRow : OpenClaim := { program := "ytmlahbmaomoiaaa", sum := "4368887e75e8bf38e8b21e1f04b3d0d4bf07b726ce347d68a96b71e3f14a6dd9", func := "bosun/bosunlaw12.PacketMatches", spec := "packetMatches", apart := false }
def PacketMatchesSaid : Prop := packetMatchesRow.holds Try.pinned (OpenSpec.ofChange packetMatchesSpec)

/-- ITS FALSE NEIGHBOUR: 'it returns false'. Refute it at one input. -/
def packetMatchesWrong : ChangeSpec := { name := "packetMatches", fn := fun _ => fun
  | [d1, d2, d3] => { results := [.lit (.bool false)], args := [d1, d2, d3] }
  | _ => none }
def PacketMatchesWrongFalsely : Prop := packetMatchesRow.holds Try.pinned (OpenSpec.ofChange packetMatchesWrong)

/-- 'bosunlaw07.CurveBytes': WHATEVER THE INPUT: true; the input reads as it did. -/
def curveBytesSpec : ChangeSpec := { name := "curveBytes", fn := fun _ => fun
  | [d1, d2] => { results := [.lit (.bool true)], args := [d1, d2] }
  | _ => none }
def curveBytesRow : OpenClaim := { program := "ytmlahbmaomoiaaa", sum := "4368887e75e8bf38e8b21e1f04b3d0d4bf07b726ce347d68a96b71e3f14a6dd9", func := "bosun/bosunlaw07.CurveBytes", spec := "curveBytes", inPlace := ["math/bits.Add64", "math/bits.Sub64"], apart := false }
def CurveBytesSaid : Prop := curveBytesRow.holds Try.pinned (OpenSpec.ofChange curveBytesSpec)

/-- ITS FALSE NEIGHBOUR: 'it returns false'. Refute it at one input. -/
def curveBytesWrong : ChangeSpec := { name := "curveBytes", fn := fun _ => fun
  | [d1, d2] => { results := [.lit (.bool false)], args := [d1, d2] }
  | _ => none }
def CurveBytesWrongFalsely : Prop := curveBytesRow.holds Try.pinned (OpenSpec.ofChange curveBytesWrong)

/-- 'bosunlaw07.CurveSums': WHATEVER THE INPUT: true; the input reads as it did. -/
def curveSumsSpec : ChangeSpec := { name := "curveSums", fn := fun _ => fun
  | [d1, d2] => { results := [.lit (.bool true)], args := [d1, d2] }
  | _ => none }
def curveSumsRow : OpenClaim := { program := "ytmlahbmaomoiaaa", sum := "4368887e75e8bf38e8b21e1f04b3d0d4bf07b726ce347d68a96b71e3f14a6dd9", func := "bosun/bosunlaw07.CurveSums", spec := "curveSums", inPlace := ["math/bits.Add64", "math/bits.Sub64"], apart := false }
def CurveSumsSaid : Prop := curveSumsRow.holds Try.pinned (OpenSpec.ofChange curveSumsSpec)

/-- ITS FALSE NEIGHBOUR: 'it returns false'. Refute it at one input. -/
def curveSumsWrong : ChangeSpec := { name := "curveSums", fn := fun _ => fun
  | [d1, d2] => { results := [.lit (.bool false)], args := [d1, d2] }
  | _ => none }
def CurveSumsWrongFalsely : Prop := curveSumsRow.holds Try.pinned (OpenSpec.ofChange curveSumsWrong)

/-- 'bosunlaw14.SettingsArgs': WHATEVER THE INPUT: true; the input reads as it did. -/
def settingsArgsSpec : ChangeSpec := { name := "settingsArgs", fn := fun _ => fun
  | [d] => { results := [.lit (.bool true)], args := [d] }
  | _ => none }
def settingsArgsRow : OpenClaim := { program := "ytmlahbmaomoiaaa", sum := "4368887e75e8bf38e8b21e1f04b3d0d4bf07b726ce347d68a96b71e3f14a6dd9", func := "bosun/bosunlaw14.SettingsArgs", spec := "settingsArgs", unfollowed := true, recurses := true, apart := false }
def SettingsArgsSaid : Prop := settingsArgsRow.holds Try.pinned (OpenSpec.ofChange settingsArgsSpec)

/-- ITS FALSE NEIGHBOUR: 'it returns false'. Refute it at one input. -/
def settingsArgsWrong : ChangeSpec := { name := "settingsArgs", fn := fun _ => fun
  | [d] => { results := [.lit (.bool false)], args := [d] }
  | _ => none }
def SettingsArgsWrongFalsely : Prop := settingsArgsRow.holds Try.pinned (OpenSpec.ofChange settingsArgsWrong)

/-- 'bosunlaw14.SettingsActs': WHATEVER THE INPUT: true; the input reads as it did. -/
def settingsActsSpec : ChangeSpec := { name := "settingsActs", fn := fun _ => fun
  | [d1, d2] => { results := [.lit (.bool true)], args := [d1, d2] }
  | _ => none }
def settingsActsRow : OpenClaim := { program := "ytmlahbmaomoiaaa", sum := "4368887e75e8bf38e8b21e1f04b3d0d4bf07b726ce347d68a96b71e3f14a6dd9", func := "bosun/bosunlaw14.SettingsActs", spec := "settingsActs", unfollowed := true, recurses := true, apart := false }
def SettingsActsSaid : Prop := settingsActsRow.holds Try.pinned (OpenSpec.ofChange settingsActsSpec)

/-- ITS FALSE NEIGHBOUR: 'it returns false'. Refute it at one input. -/
def settingsActsWrong : ChangeSpec := { name := "settingsActs", fn := fun _ => fun
  | [d1, d2] => { results := [.lit (.bool false)], args := [d1, d2] }
  | _ => none }
def SettingsActsWrongFalsely : Prop := settingsActsRow.holds Try.pinned (OpenSpec.ofChange settingsActsWrong)

/-- 'bosunlaw14.SettingsTorn': WHATEVER THE INPUT: true; the input reads as it did. -/
def settingsTornSpec : ChangeSpec := { name := "settingsTorn", fn := fun _ => fun
  | [d1, d2, d3] => { results := [.lit (.bool true)], args := [d1, d2, d3] }
  | _ => none }
def settingsTornRow : OpenClaim := { program := "ytmlahbmaomoiaaa", sum := "4368887e75e8bf38e8b21e1f04b3d0d4bf07b726ce347d68a96b71e3f14a6dd9", func := "bosun/bosunlaw14.SettingsTorn", spec := "settingsTorn", unfollowed := true, recurses := true, apart := false }
def SettingsTornSaid : Prop := settingsTornRow.holds Try.pinned (OpenSpec.ofChange settingsTornSpec)

/-- ITS FALSE NEIGHBOUR: 'it returns false'. Refute it at one input. -/
def settingsTornWrong : ChangeSpec := { name := "settingsTorn", fn := fun _ => fun
  | [d1, d2, d3] => { results := [.lit (.bool false)], args := [d1, d2, d3] }
  | _ => none }
def SettingsTornWrongFalsely : Prop := settingsTornRow.holds Try.pinned (OpenSpec.ofChange settingsTornWrong)

/- THE SECOND FORM. 'bulk': how many values and letters a reading holds, each counted each time it is reached (what is shared counts as often as it is met; a slice's spare places count too). A statement '..UptoSaid' is the law's where the arguments, and the package variables that the reading takes, are together of bulk at most 1048576: NARROWER than '..Said'. Prove '..Said' where nothing that the law and all that it calls make is longer than what came in: it says more and counts as full. Else prove '..UptoSaid'. A law counts once. -/
mutual
def uptoBulk {H : Type} : DataW H → Nat
  | .lit (.string bytes) => bytes.length + 1
  | .lit _ => 1
  | .nil => 1
  | .ptr d => uptoBulk d + 1
  | .slice elems spare => uptoBulkAll elems + uptoBulkAll spare + 1
  | .agg parts => uptoBulkAll parts + 1
  | .iface _ d => uptoBulk d + 1
  | .map entries => uptoBulkEntries entries + 1
  | .held _ => 1
def uptoBulkAll {H : Type} : List (DataW H) → Nat
  | [] => 0
  | d :: r => uptoBulk d + uptoBulkAll r
def uptoBulkEntries {H : Type} : List (Lit × DataW H) → Nat
  | [] => 0
  | x :: r => uptoBulkEntry x + uptoBulkEntries r
def uptoBulkEntry {H : Type} : Lit × DataW H → Nat
  | (.string bytes, d) => bytes.length + uptoBulk d + 1
  | (_, d) => uptoBulk d + 1
 end
def uptoSmall : (H : Type) → List (DataW H) → Bool := fun _ ds => decide (uptoBulkAll ds ≤ 1048576)
def OpenSpec.upto (s : _root_.Go.ChangeSpec) : _root_.Go.OpenSpec := { _root_.Go.OpenSpec.ofChange s with cond := some uptoSmall }

/-- 'bosunlaw01.FlashTears', WHERE WHAT IT READS IS OF BULK AT MOST 1048576: true; the input reads as it did. -/
def flashTearsUptoRow : OpenClaim := { program := "ytmlahbmaomoiaaa", sum := "4368887e75e8bf38e8b21e1f04b3d0d4bf07b726ce347d68a96b71e3f14a6dd9", func := "bosun/bosunlaw01.FlashTears", spec := "flashTears", apart := false, narrowed := true }
def FlashTearsUptoSaid : Prop := flashTearsUptoRow.holds Try.pinned (OpenSpec.upto flashTearsSpec)

/-- 'bosunlaw05.FieldPowers', WHERE WHAT IT READS IS OF BULK AT MOST 1048576: true; the input reads as it did. -/
def fieldPowersUptoRow : OpenClaim := { program := "ytmlahbmaomoiaaa", sum := "4368887e75e8bf38e8b21e1f04b3d0d4bf07b726ce347d68a96b71e3f14a6dd9", func := "bosun/bosunlaw05.FieldPowers", spec := "fieldPowers", inPlace := ["math/bits.Add64", "math/bits.Sub64"], apart := false, narrowed := true }
def FieldPowersUptoSaid : Prop := fieldPowersUptoRow.holds Try.pinned (OpenSpec.upto fieldPowersSpec)

/-- 'bosunlaw05.FieldRoots', WHERE WHAT IT READS IS OF BULK AT MOST 1048576: true; the input reads as it did. -/
def fieldRootsUptoRow : OpenClaim := { program := "ytmlahbmaomoiaaa", sum := "4368887e75e8bf38e8b21e1f04b3d0d4bf07b726ce347d68a96b71e3f14a6dd9", func := "bosun/bosunlaw05.FieldRoots", spec := "fieldRoots", inPlace := ["math/bits.Add64", "math/bits.Sub64"], apart := false, narrowed := true }
def FieldRootsUptoSaid : Prop := fieldRootsUptoRow.holds Try.pinned (OpenSpec.upto fieldRootsSpec)

/-- 'bosunlaw05.FieldSums', WHERE WHAT IT READS IS OF BULK AT MOST 1048576: true; the input reads as it did. -/
def fieldSumsUptoRow : OpenClaim := { program := "ytmlahbmaomoiaaa", sum := "4368887e75e8bf38e8b21e1f04b3d0d4bf07b726ce347d68a96b71e3f14a6dd9", func := "bosun/bosunlaw05.FieldSums", spec := "fieldSums", inPlace := ["math/bits.Add64", "math/bits.Sub64"], apart := false, narrowed := true }
def FieldSumsUptoSaid : Prop := fieldSumsUptoRow.holds Try.pinned (OpenSpec.upto fieldSumsSpec)

/-- 'bosunlaw05.FieldRules', WHERE WHAT IT READS IS OF BULK AT MOST 1048576: true; the input reads as it did. -/
def fieldRulesUptoRow : OpenClaim := { program := "ytmlahbmaomoiaaa", sum := "4368887e75e8bf38e8b21e1f04b3d0d4bf07b726ce347d68a96b71e3f14a6dd9", func := "bosun/bosunlaw05.FieldRules", spec := "fieldRules", inPlace := ["math/bits.Add64", "math/bits.Sub64"], apart := false, narrowed := true }
def FieldRulesUptoSaid : Prop := fieldRulesUptoRow.holds Try.pinned (OpenSpec.upto fieldRulesSpec)

/-- 'bosunlaw01.FlashNil', WHERE WHAT IT READS IS OF BULK AT MOST 1048576: true; the input reads as it did. -/
def flashNilUptoRow : OpenClaim := { program := "ytmlahbmaomoiaaa", sum := "4368887e75e8bf38e8b21e1f04b3d0d4bf07b726ce347d68a96b71e3f14a6dd9", func := "bosun/bosunlaw01.FlashNil", spec := "flashNil", apart := false, narrowed := true }
def FlashNilUptoSaid : Prop := flashNilUptoRow.holds Try.pinned (OpenSpec.upto flashNilSpec)

/-- 'bosunlaw05.FieldBytes', WHERE WHAT IT READS IS OF BULK AT MOST 1048576: true; the input reads as it did. -/
def fieldBytesUptoRow : OpenClaim := { program := "ytmlahbmaomoiaaa", sum := "4368887e75e8bf38e8b21e1f04b3d0d4bf07b726ce347d68a96b71e3f14a6dd9", func := "bosun/bosunlaw05.FieldBytes", spec := "fieldBytes", inPlace := ["math/bits.Add64", "math/bits.Sub64"], apart := false, narrowed := true }
def FieldBytesUptoSaid : Prop := fieldBytesUptoRow.holds Try.pinned (OpenSpec.upto fieldBytesSpec)

/-- 'bosunlaw12.PacketMatches', WHERE WHAT IT READS IS OF BULK AT MOST 1048576: true; the input reads as it did. -/
def packetMatchesUptoRow : OpenClaim := { program := "ytmlahbmaomoiaaa", sum := "4368887e75e8bf38e8b21e1f04b3d0d4bf07b726ce347d68a96b71e3f14a6dd9", func := "bosun/bosunlaw12.PacketMatches", spec := "packetMatches", apart := false, narrowed := true }
def PacketMatchesUptoSaid : Prop := packetMatchesUptoRow.holds Try.pinned (OpenSpec.upto packetMatchesSpec)

/-- 'bosunlaw07.CurveBytes', WHERE WHAT IT READS IS OF BULK AT MOST 1048576: true; the input reads as it did. -/
def curveBytesUptoRow : OpenClaim := { program := "ytmlahbmaomoiaaa", sum := "4368887e75e8bf38e8b21e1f04b3d0d4bf07b726ce347d68a96b71e3f14a6dd9", func := "bosun/bosunlaw07.CurveBytes", spec := "curveBytes", inPlace := ["math/bits.Add64", "math/bits.Sub64"], apart := false, narrowed := true }
def CurveBytesUptoSaid : Prop := curveBytesUptoRow.holds Try.pinned (OpenSpec.upto curveBytesSpec)

/-- 'bosunlaw07.CurveSums', WHERE WHAT IT READS IS OF BULK AT MOST 1048576: true; the input reads as it did. -/
def curveSumsUptoRow : OpenClaim := { program := "ytmlahbmaomoiaaa", sum := "4368887e75e8bf38e8b21e1f04b3d0d4bf07b726ce347d68a96b71e3f14a6dd9", func := "bosun/bosunlaw07.CurveSums", spec := "curveSums", inPlace := ["math/bits.Add64", "math/bits.Sub64"], apart := false, narrowed := true }
def CurveSumsUptoSaid : Prop := curveSumsUptoRow.holds Try.pinned (OpenSpec.upto curveSumsSpec)

/-- 'bosunlaw14.SettingsArgs', WHERE WHAT IT READS IS OF BULK AT MOST 1048576: true; the input reads as it did. -/
def settingsArgsUptoRow : OpenClaim := { program := "ytmlahbmaomoiaaa", sum := "4368887e75e8bf38e8b21e1f04b3d0d4bf07b726ce347d68a96b71e3f14a6dd9", func := "bosun/bosunlaw14.SettingsArgs", spec := "settingsArgs", unfollowed := true, recurses := true, apart := false, narrowed := true }
def SettingsArgsUptoSaid : Prop := settingsArgsUptoRow.holds Try.pinned (OpenSpec.upto settingsArgsSpec)

/-- 'bosunlaw14.SettingsActs', WHERE WHAT IT READS IS OF BULK AT MOST 1048576: true; the input reads as it did. -/
def settingsActsUptoRow : OpenClaim := { program := "ytmlahbmaomoiaaa", sum := "4368887e75e8bf38e8b21e1f04b3d0d4bf07b726ce347d68a96b71e3f14a6dd9", func := "bosun/bosunlaw14.SettingsActs", spec := "settingsActs", unfollowed := true, recurses := true, apart := false, narrowed := true }
def SettingsActsUptoSaid : Prop := settingsActsUptoRow.holds Try.pinned (OpenSpec.upto settingsActsSpec)

/-- 'bosunlaw14.SettingsTorn', WHERE WHAT IT READS IS OF BULK AT MOST 1048576: true; the input reads as it did. -/
def settingsTornUptoRow : OpenClaim := { program := "ytmlahbmaomoiaaa", sum := "4368887e75e8bf38e8b21e1f04b3d0d4bf07b726ce347d68a96b71e3f14a6dd9", func := "bosun/bosunlaw14.SettingsTorn", spec := "settingsTorn", unfollowed := true, recurses := true, apart := false, narrowed := true }
def SettingsTornUptoSaid : Prop := settingsTornUptoRow.holds Try.pinned (OpenSpec.upto settingsTornSpec)

end Rows
end Go.Proofs.Ytmlahbmaomoiaaa
