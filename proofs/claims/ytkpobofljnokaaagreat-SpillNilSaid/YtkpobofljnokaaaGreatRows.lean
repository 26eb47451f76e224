/-
  No cell of these rows narrows 'for every input' (looked for: loops, veiled, ifaces, maps, wideKeys, modest, calm, conditions, laid).
  DERIVED. THE GIVEN ROWS OF THIS SEAT. 5 by the template 'for every input the law returns true; each argument reads behind the call as it read before'; 0 by the template 'total and deterministic' (their statements: YtkpobofljnokaaaGreatTotals.lean).
  GIVEN WITH THE SEED: the statements are not yours to turn. If you find one false, say at which input.
  Laid BY PROGRAM, IN A SANDBOX (cutbox-rows.mjs): the forced cells as the released guide's own fill.sh prints them over the translation c783b66d9d45a5bf… (all of the seat's roots in one cut). By AI agents, Wed Nov 11 2026. No macro, syntax, notation, axiom, sorry.
-/
import Derived.Test.YtkpobofljnokaaaGreatChecked
import GoSem.Claim
import GoSem.ClaimJoined
import GoSem.ClaimMapViews
import Derived.JoinedTies
import Derived.KernelRfl
namespace Go.Proofs.YtkpobofljnokaaaGreat
/- THE CELL 'sum', in the pinned program and in every row, IS THE sha256 OF THE DUMP (.gsa) THAT YtkpobofljnokaaaGreatProg.lean LOADS. Nothing in Lean hashes anything: it is a label: what it is worth is what the hold of that sum in a sandbox is worth. -/
noncomputable def Tryz.pinned : Pinned := { name := "ytkpobofljnokaaagreat", sum := "c783b66d9d45a5bf16752bf3c47e63f9a9f490f370d072125bfba9b0bd479217", checked := Tryz.checked }
namespace Rows
def none {H : Type} : Left H := { results := [], args := [] }

/-- 'sumpterlaw10.SpillTrims': WHATEVER THE INPUT: true; the input reads as it did. -/
def spillTrimsSpec : ChangeSpec := { name := "spillTrims", fn := fun _ => fun
  | [d1, d2, d3] => { results := [.lit (.bool true)], args := [d1, d2, d3] }
  | _ => none }
def spillTrimsRow : OpenClaim := { program := "ytkpobofljnokaaagreat", sum := "c783b66d9d45a5bf16752bf3c47e63f9a9f490f370d072125bfba9b0bd479217", func := "sumpter/sumpterlaw10.SpillTrims", spec := "spillTrims", inPlace := ["maps.clone"], unfollowed := true, recurses := true, apart := false }
def SpillTrimsSaid : Prop := spillTrimsRow.holds Tryz.pinned (OpenSpec.ofChange spillTrimsSpec)

/-- ITS FALSE NEIGHBOUR: 'it returns false'. Refute it at one input. -/
def spillTrimsWrong : ChangeSpec := { name := "spillTrims", fn := fun _ => fun
  | [d1, d2, d3] => { results := [.lit (.bool false)], args := [d1, d2, d3] }
  | _ => none }
def SpillTrimsWrongFalsely : Prop := spillTrimsRow.holds Tryz.pinned (OpenSpec.ofChange spillTrimsWrong)

/-- 'sumpterlaw10.SpillNil': WHATEVER THE INPUT: true; the input reads as it did. -/
def spillNilSpec : ChangeSpec := { name := "spillNil", fn := fun _ => fun
  | [d1, d2, d3, d4, d5] => { results := [.lit (.bool true)], args := [d1, d2, d3, d4, d5] }
  | _ => none }
def spillNilRow : OpenClaim := { program := "ytkpobofljnokaaagreat", sum := "c783b66d9d45a5bf16752bf3c47e63f9a9f490f370d072125bfba9b0bd479217", func := "sumpter/sumpterlaw10.SpillNil", spec := "spillNil", inPlace := ["maps.clone"], unfollowed := true, recurses := true, apart := false }
def SpillNilSaid : Prop := spillNilRow.holds Tryz.pinned (OpenSpec.ofChange spillNilSpec)

/-- ITS FALSE NEIGHBOUR: 'it returns false'. Refute it at one input. -/
def spillNilWrong : ChangeSpec := { name := "spillNil", fn := fun _ => fun
  | [d1, d2, d3, d4, d5] => { results := [.lit (.bool false)], args := [d1, d2, d3, d4, d5] }
  | _ => none }
def SpillNilWrongFalsely : Prop := spillNilRow.holds Tryz.pinned (OpenSpec.ofChange spillNilWrong)

/-- 'sumpterlaw10.SpillNumbers': WHATEVER THE INPUT: true; the input reads as it did. -/
def spillNumbersSpec : ChangeSpec := { name := "spillNumbers", fn := fun _ => fun
  | [d1, d2, d3, d4] => { results := [.lit (.bool true)], args := [d1, d2, d3, d4] }
  | _ => none }
def spillNumbersRow : OpenClaim := { program := "ytkpobofljnokaaagreat", sum := "c783b66d9d45a5bf16752bf3c47e63f9a9f490f370d072125bfba9b0bd479217", func := "sumpter/sumpterlaw10.SpillNumbers", spec := "spillNumbers", inPlace := ["maps.clone", "math/bits.Add64"], unfollowed := true, recurses := true, apart := false }
def SpillNumbersSaid : Prop := spillNumbersRow.holds Tryz.pinned (OpenSpec.ofChange spillNumbersSpec)

/-- ITS FALSE NEIGHBOUR: 'it returns false'. Refute it at one input. -/
def spillNumbersWrong : ChangeSpec := { name := "spillNumbers", fn := fun _ => fun
  | [d1, d2, d3, d4] => { results := [.lit (.bool false)], args := [d1, d2, d3, d4] }
  | _ => none }
def SpillNumbersWrongFalsely : Prop := spillNumbersRow.holds Tryz.pinned (OpenSpec.ofChange spillNumbersWrong)

/-- 'sumpterlaw10.SpillHolds': WHATEVER THE INPUT: true; the input reads as it did. -/
def spillHoldsSpec : ChangeSpec := { name := "spillHolds", fn := fun _ => fun
  | [d1, d2, d3, d4] => { results := [.lit (.bool true)], args := [d1, d2, d3, d4] }
  | _ => none }
def spillHoldsRow : OpenClaim := { program := "ytkpobofljnokaaagreat", sum := "c783b66d9d45a5bf16752bf3c47e63f9a9f490f370d072125bfba9b0bd479217", func := "sumpter/sumpterlaw10.SpillHolds", spec := "spillHolds", inPlace := ["maps.clone"], unfollowed := true, recurses := true, apart := false }
def SpillHoldsSaid : Prop := spillHoldsRow.holds Tryz.pinned (OpenSpec.ofChange spillHoldsSpec)

/-- ITS FALSE NEIGHBOUR: 'it returns false'. Refute it at one input. -/
def spillHoldsWrong : ChangeSpec := { name := "spillHolds", fn := fun _ => fun
  | [d1, d2, d3, d4] => { results := [.lit (.bool false)], args := [d1, d2, d3, d4] }
  | _ => none }
def SpillHoldsWrongFalsely : Prop := spillHoldsRow.holds Tryz.pinned (OpenSpec.ofChange spillHoldsWrong)

/-- 'sumpterlaw10.SpillRefuses': WHATEVER THE INPUT: true; the input reads as it did. -/
def spillRefusesSpec : ChangeSpec := { name := "spillRefuses", fn := fun _ => fun
  | [d1, d2, d3, d4, d5, d6] => { results := [.lit (.bool true)], args := [d1, d2, d3, d4, d5, d6] }
  | _ => none }
def spillRefusesRow : OpenClaim := { program := "ytkpobofljnokaaagreat", sum := "c783b66d9d45a5bf16752bf3c47e63f9a9f490f370d072125bfba9b0bd479217", func := "sumpter/sumpterlaw10.SpillRefuses", spec := "spillRefuses", inPlace := ["maps.clone"], unfollowed := true, recurses := true, apart := false }
def SpillRefusesSaid : Prop := spillRefusesRow.holds Tryz.pinned (OpenSpec.ofChange spillRefusesSpec)

/-- ITS FALSE NEIGHBOUR: 'it returns false'. Refute it at one input. -/
def spillRefusesWrong : ChangeSpec := { name := "spillRefuses", fn := fun _ => fun
  | [d1, d2, d3, d4, d5, d6] => { results := [.lit (.bool false)], args := [d1, d2, d3, d4, d5, d6] }
  | _ => none }
def SpillRefusesWrongFalsely : Prop := spillRefusesRow.holds Tryz.pinned (OpenSpec.ofChange spillRefusesWrong)

/- THE SECOND FORM. 'bulk': how many values and letters a reading holds, each counted each time it is reached (what is shared counts as often as it is met; a slice's spare places count too). A statement '..UptoSaid' is the law's where the arguments, and the package variables that the reading takes, are together of bulk at most 1048576: NARROWER than '..Said'. Prove '..Said' where nothing that the law and all that it calls make is longer than what came in: it says more and counts as full. Else prove '..UptoSaid'. A law counts once. -/
mutual
def uptoBulk {H : Type} : DataW H → Nat
  | .lit (.string bytes) => bytes.length + 1
  | .lit _ => 1
  | .nil => 1
  | .ptr d => uptoBulk d + 1
  | .slice elems spare => uptoBulkAll elems + uptoBulkAll spare + 1
  | .agg parts => uptoBulkAll parts + 1
  | .iface _ d => uptoBulk d + 1
  | .map entries => uptoBulkEntries entries + 1
  | .held _ => 1
def uptoBulkAll {H : Type} : List (DataW H) → Nat
  | [] => 0
  | d :: r => uptoBulk d + uptoBulkAll r
def uptoBulkEntries {H : Type} : List (Lit × DataW H) → Nat
  | [] => 0
  | x :: r => uptoBulkEntry x + uptoBulkEntries r
def uptoBulkEntry {H : Type} : Lit × DataW H → Nat
  | (.string bytes, d) => bytes.length + uptoBulk d + 1
  | (_, d) => uptoBulk d + 1
 end
def uptoSmall : (H : Type) → List (DataW H) → Bool := fun _ ds => decide (uptoBulkAll ds ≤ 1048576)
def OpenSpec.upto (s : _root_.Go.ChangeSpec) : _root_.Go.OpenSpec := { _root_.Go.OpenSpec.ofChange s with cond := some uptoSmall }

/-- 'sumpterlaw10.SpillTrims', WHERE WHAT IT READS IS OF BULK AT MOST 1048576: true; the input reads as it did. -/
def spillTrimsUptoRow : OpenClaim := { program := "ytkpobofljnokaaagreat", sum := "c783b66d9d45a5bf16752bf3c47e63f9a9f490f370d072125bfba9b0bd479217", func := "sumpter/sumpterlaw10.SpillTrims", spec := "spillTrims", inPlace := ["maps.clone"], unfollowed := true, recurses := true, apart := false, narrowed := true }
def SpillTrimsUptoSaid : Prop := spillTrimsUptoRow.holds Tryz.pinned (OpenSpec.upto spillTrimsSpec)

/-- 'sumpterlaw10.SpillNil', WHERE WHAT IT READS IS OF BULK AT MOST 1048576: true; the input reads as it did. -/
def spillNilUptoRow : OpenClaim := { program := "ytkpobofljnokaaagreat", sum := "c783b66d9d45a5bf16752bf3c47e63f9a9f490f370d072125bfba9b0bd479217", func := "sumpter/sumpterlaw10.SpillNil", spec := "spillNil", inPlace := ["maps.clone"], unfollowed := true, recurses := true, apart := false, narrowed := true }
def SpillNilUptoSaid : Prop := spillNilUptoRow.holds Tryz.pinned (OpenSpec.upto spillNilSpec)

/-- 'sumpterlaw10.SpillNumbers', WHERE WHAT IT READS IS OF BULK AT MOST 1048576: true; the input reads as it did. -/
def spillNumbersUptoRow : OpenClaim := { program := "ytkpobofljnokaaagreat", sum := "c783b66d9d45a5bf16752bf3c47e63f9a9f490f370d072125bfba9b0bd479217", func := "sumpter/sumpterlaw10.SpillNumbers", spec := "spillNumbers", inPlace := ["maps.clone", "math/bits.Add64"], unfollowed := true, recurses := true, apart := false, narrowed := true }
def SpillNumbersUptoSaid : Prop := spillNumbersUptoRow.holds Tryz.pinned (OpenSpec.upto spillNumbersSpec)

/-- 'sumpterlaw10.SpillHolds', WHERE WHAT IT READS IS OF BULK AT MOST 1048576: true; the input reads as it did. -/
def spillHoldsUptoRow : OpenClaim := { program := "ytkpobofljnokaaagreat", sum := "c783b66d9d45a5bf16752bf3c47e63f9a9f490f370d072125bfba9b0bd479217", func := "sumpter/sumpterlaw10.SpillHolds", spec := "spillHolds", inPlace := ["maps.clone"], unfollowed := true, recurses := true, apart := false, narrowed := true }
def SpillHoldsUptoSaid : Prop := spillHoldsUptoRow.holds Tryz.pinned (OpenSpec.upto spillHoldsSpec)

/-- 'sumpterlaw10.SpillRefuses', WHERE WHAT IT READS IS OF BULK AT MOST 1048576: true; the input reads as it did. -/
def spillRefusesUptoRow : OpenClaim := { program := "ytkpobofljnokaaagreat", sum := "c783b66d9d45a5bf16752bf3c47e63f9a9f490f370d072125bfba9b0bd479217", func := "sumpter/sumpterlaw10.SpillRefuses", spec := "spillRefuses", inPlace := ["maps.clone"], unfollowed := true, recurses := true, apart := false, narrowed := true }
def SpillRefusesUptoSaid : Prop := spillRefusesUptoRow.holds Tryz.pinned (OpenSpec.upto spillRefusesSpec)

end Rows
end Go.Proofs.YtkpobofljnokaaaGreat
