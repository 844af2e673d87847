/-
  No cell of these rows narrows 'for every input' (looked for: loops, veiled, ifaces, maps, wideKeys, modest, calm, conditions, laid).
  DERIVED. THE GIVEN ROWS OF THIS SEAT. 4 by the template 'for every input the law returns true; each argument reads behind the call as it read before'; 0 by the template 'total and deterministic' (their statements: YtlckkpjbkjbdcaaTotals.lean).
  GIVEN WITH THE SEED: the statements are not yours to turn. If you find one false, say at which input.
  Laid BY PROGRAM, IN A SANDBOX (cutbox-rows.mjs): the forced cells as the released guide's own fill.sh prints them over the translation 501927360baa1018… (all of the seat's roots in one cut). By AI agents, Wed Nov 11 2026. No macro, syntax, notation, axiom, sorry.
-/
import Derived.Test.YtlckkpjbkjbdcaaChecked
import GoSem.Claim
import GoSem.ClaimJoined
import GoSem.ClaimMapViews
import Derived.JoinedTies
import Derived.KernelRfl
namespace Go.Proofs.Ytlckkpjbkjbdcaa
/- THE CELL 'sum', in the pinned program and in every row, IS THE sha256 OF THE DUMP (.gsa) THAT YtlckkpjbkjbdcaaProg.lean LOADS. Nothing in Lean hashes anything: it is a label: what it is worth is what the hold of that sum in a sandbox is worth. -/
noncomputable def Try.pinned : Pinned := { name := "ytlckkpjbkjbdcaa", sum := "501927360baa1018fe35e6f6afe1882413d555cee0184533ca5fd5ce4f216f46", checked := Try.checked }
namespace Rows
def none {H : Type} : Left H := { results := [], args := [] }

/-- 'waymarklaw04.TlvFilters': WHATEVER THE INPUT: true; the input reads as it did. -/
def tlvFiltersSpec : ChangeSpec := { name := "tlvFilters", fn := fun _ => fun
  | [d1, d2, d3] => { results := [.lit (.bool true)], args := [d1, d2, d3] }
  | _ => none }
def tlvFiltersRow : OpenClaim := { program := "ytlckkpjbkjbdcaa", sum := "501927360baa1018fe35e6f6afe1882413d555cee0184533ca5fd5ce4f216f46", func := "waymark/waymarklaw04.TlvFilters", spec := "tlvFilters", apart := false }
def TlvFiltersSaid : Prop := tlvFiltersRow.holds Try.pinned (OpenSpec.ofChange tlvFiltersSpec)

/-- ITS FALSE NEIGHBOUR: 'it returns false'. Refute it at one input. -/
def tlvFiltersWrong : ChangeSpec := { name := "tlvFilters", fn := fun _ => fun
  | [d1, d2, d3] => { results := [.lit (.bool false)], args := [d1, d2, d3] }
  | _ => none }
def TlvFiltersWrongFalsely : Prop := tlvFiltersRow.holds Try.pinned (OpenSpec.ofChange tlvFiltersWrong)

/-- 'waymarklaw04.TlvSplits': WHATEVER THE INPUT: true; the input reads as it did. -/
def tlvSplitsSpec : ChangeSpec := { name := "tlvSplits", fn := fun _ => fun
  | [d] => { results := [.lit (.bool true)], args := [d] }
  | _ => none }
def tlvSplitsRow : OpenClaim := { program := "ytlckkpjbkjbdcaa", sum := "501927360baa1018fe35e6f6afe1882413d555cee0184533ca5fd5ce4f216f46", func := "waymark/waymarklaw04.TlvSplits", spec := "tlvSplits", apart := false }
def TlvSplitsSaid : Prop := tlvSplitsRow.holds Try.pinned (OpenSpec.ofChange tlvSplitsSpec)

/-- ITS FALSE NEIGHBOUR: 'it returns false'. Refute it at one input. -/
def tlvSplitsWrong : ChangeSpec := { name := "tlvSplits", fn := fun _ => fun
  | [d] => { results := [.lit (.bool false)], args := [d] }
  | _ => none }
def TlvSplitsWrongFalsely : Prop := tlvSplitsRow.holds Try.pinned (OpenSpec.ofChange tlvSplitsWrong)

/-- 'waymarklaw04.TlvParts': WHATEVER THE INPUT: true; the input reads as it did. -/
def tlvPartsSpec : ChangeSpec := { name := "tlvParts", fn := fun _ => fun
  | [d1, d2, d3] => { results := [.lit (.bool true)], args := [d1, d2, d3] }
  | _ => none }
def tlvPartsRow : OpenClaim := { program := "ytlckkpjbkjbdcaa", sum := "501927360baa1018fe35e6f6afe1882413d555cee0184533ca5fd5ce4f216f46", func := "waymark/waymarklaw04.TlvParts", spec := "tlvParts", apart := false }
def TlvPartsSaid : Prop := tlvPartsRow.holds Try.pinned (OpenSpec.ofChange tlvPartsSpec)

/-- ITS FALSE NEIGHBOUR: 'it returns false'. Refute it at one input. -/
def tlvPartsWrong : ChangeSpec := { name := "tlvParts", fn := fun _ => fun
  | [d1, d2, d3] => { results := [.lit (.bool false)], args := [d1, d2, d3] }
  | _ => none }
def TlvPartsWrongFalsely : Prop := tlvPartsRow.holds Try.pinned (OpenSpec.ofChange tlvPartsWrong)

/-- 'waymarklaw04.TlvJoins': WHATEVER THE INPUT: true; the input reads as it did. -/
def tlvJoinsSpec : ChangeSpec := { name := "tlvJoins", fn := fun _ => fun
  | [d1, d2] => { results := [.lit (.bool true)], args := [d1, d2] }
  | _ => none }
def tlvJoinsRow : OpenClaim := { program := "ytlckkpjbkjbdcaa", sum := "501927360baa1018fe35e6f6afe1882413d555cee0184533ca5fd5ce4f216f46", func := "waymark/waymarklaw04.TlvJoins", spec := "tlvJoins", apart := false }
def TlvJoinsSaid : Prop := tlvJoinsRow.holds Try.pinned (OpenSpec.ofChange tlvJoinsSpec)

/-- ITS FALSE NEIGHBOUR: 'it returns false'. Refute it at one input. -/
def tlvJoinsWrong : ChangeSpec := { name := "tlvJoins", fn := fun _ => fun
  | [d1, d2] => { results := [.lit (.bool false)], args := [d1, d2] }
  | _ => none }
def TlvJoinsWrongFalsely : Prop := tlvJoinsRow.holds Try.pinned (OpenSpec.ofChange tlvJoinsWrong)

/- THE SECOND FORM. 'bulk': how many values and letters a reading holds, each counted each time it is reached (what is shared counts as often as it is met; a slice's spare places count too). A statement '..UptoSaid' is the law's where the arguments, and the package variables that the reading takes, are together of bulk at most 1048576: NARROWER than '..Said'. Prove '..Said' where nothing that the law and all that it calls make is longer than what came in: it says more and counts as full. Else prove '..UptoSaid'. A law counts once. -/
mutual
def uptoBulk {H : Type} : DataW H → Nat
  | .lit (.string bytes) => bytes.length + 1
  | .lit _ => 1
  | .nil => 1
  | .ptr d => uptoBulk d + 1
  | .slice elems spare => uptoBulkAll elems + uptoBulkAll spare + 1
  | .agg parts => uptoBulkAll parts + 1
  | .iface _ d => uptoBulk d + 1
  | .map entries => uptoBulkEntries entries + 1
  | .held _ => 1
def uptoBulkAll {H : Type} : List (DataW H) → Nat
  | [] => 0
  | d :: r => uptoBulk d + uptoBulkAll r
def uptoBulkEntries {H : Type} : List (Lit × DataW H) → Nat
  | [] => 0
  | x :: r => uptoBulkEntry x + uptoBulkEntries r
def uptoBulkEntry {H : Type} : Lit × DataW H → Nat
  | (.string bytes, d) => bytes.length + uptoBulk d + 1
  | (_, d) => uptoBulk d + 1
 end
def uptoSmall : (H : Type) → List (DataW H) → Bool := fun _ ds => decide (uptoBulkAll ds ≤ 1048576)
def OpenSpec.upto (s : _root_.Go.ChangeSpec) : _root_.Go.OpenSpec := { _root_.Go.OpenSpec.ofChange s with cond := some uptoSmall }

/-- 'waymarklaw04.TlvFilters', WHERE WHAT IT READS IS OF BULK AT MOST 1048576: true; the input reads as it did. -/
def tlvFiltersUptoRow : OpenClaim := { program := "ytlckkpjbkjbdcaa", sum := "501927360baa1018fe35e6f6afe1882413d555cee0184533ca5fd5ce4f216f46", func := "waymark/waymarklaw04.TlvFilters", spec := "tlvFilters", apart := false, narrowed := true }
def TlvFiltersUptoSaid : Prop := tlvFiltersUptoRow.holds Try.pinned (OpenSpec.upto tlvFiltersSpec)

/-- 'waymarklaw04.TlvSplits', WHERE WHAT IT READS IS OF BULK AT MOST 1048576: true; the input reads as it did. -/
def tlvSplitsUptoRow : OpenClaim := { program := "ytlckkpjbkjbdcaa", sum := "501927360baa1018fe35e6f6afe1882413d555cee0184533ca5fd5ce4f216f46", func := "waymark/waymarklaw04.TlvSplits", spec := "tlvSplits", apart := false, narrowed := true }
def TlvSplitsUptoSaid : Prop := tlvSplitsUptoRow.holds Try.pinned (OpenSpec.upto tlvSplitsSpec)

/-- 'waymarklaw04.TlvParts', WHERE WHAT IT READS IS OF BULK AT MOST 1048576: true; the input reads as it did. -/
def tlvPartsUptoRow : OpenClaim := { program := "ytlckkpjbkjbdcaa", sum := "501927360baa1018fe35e6f6afe1882413d555cee0184533ca5fd5ce4f216f46", func := "waymark/waymarklaw04.TlvParts", spec := "tlvParts", apart := false, narrowed := true }
def TlvPartsUptoSaid : Prop := tlvPartsUptoRow.holds Try.pinned (OpenSpec.upto tlvPartsSpec)

/-- 'waymarklaw04.TlvJoins', WHERE WHAT IT READS IS OF BULK AT MOST 1048576: true; the input reads as it did. -/
def tlvJoinsUptoRow : OpenClaim := { program := "ytlckkpjbkjbdcaa", sum := "501927360baa1018fe35e6f6afe1882413d555cee0184533ca5fd5ce4f216f46", func := "waymark/waymarklaw04.TlvJoins", spec := "tlvJoins", apart := false, narrowed := true }
def TlvJoinsUptoSaid : Prop := tlvJoinsUptoRow.holds Try.pinned (OpenSpec.upto tlvJoinsSpec)

end Rows
end Go.Proofs.Ytlckkpjbkjbdcaa
