/-
  No cell of these rows narrows 'for every input' (looked for: loops, veiled, ifaces, maps, wideKeys, modest, calm, conditions, laid).
  DERIVED. THE GIVEN ROWS OF THIS SEAT. 5 by the template 'for every input the law returns true; each argument reads behind the call as it read before'; 0 by the template 'total and deterministic' (their statements: YtofmblkmfbioiaaTotals.lean).
  GIVEN WITH THE SEED: the statements are not yours to turn. If you find one false, say at which input.
  Laid BY PROGRAM, IN A SANDBOX (cutbox-rows.mjs): the forced cells as the released guide's own fill.sh prints them over the translation 4973aee9a1ffe806… (all of the seat's roots in one cut). By AI agents, Wed Nov 11 2026. No macro, syntax, notation, axiom, sorry.
-/
import Derived.Test.YtofmblkmfbioiaaChecked
import GoSem.Claim
import GoSem.ClaimJoined
import GoSem.ClaimMapViews
import Derived.JoinedTies
import Derived.KernelRfl
namespace Go.Proofs.Ytofmblkmfbioiaa
/- THE CELL 'sum', in the pinned program and in every row, IS THE sha256 OF THE DUMP (.gsa) THAT YtofmblkmfbioiaaProg.lean LOADS. Nothing in Lean hashes anything: it is a label: what it is worth is what the hold of that sum in a sandbox is worth. -/
noncomputable def Try.pinned : Pinned := { name := "ytofmblkmfbioiaa", sum := "4973aee9a1ffe806ba2a34726636f878f6e189efa3a5eb87e68e525e8399b62e", checked := Try.checked }
namespace Rows
def none {H : Type} : Left H := { results := [], args := [] }

/-- 'syngraphlaw17.NetFull': WHATEVER THE INPUT: true; the input reads as it did. -/
def netFullSpec : ChangeSpec := { name := "netFull", fn := fun _ => fun
  | [d1, d2] => { results := [.lit (.bool true)], args := [d1, d2] }
  | _ => none }
def netFullRow : OpenClaim := { program := "ytofmblkmfbioiaa", sum := "4973aee9a1ffe806ba2a34726636f878f6e189efa3a5eb87e68e525e8399b62e", func := "syngraph/syngraphlaw17.NetFull", spec := "netFull", apart := false }
def NetFullSaid : Prop := netFullRow.holds Try.pinned (OpenSpec.ofChange netFullSpec)

/-- ITS FALSE NEIGHBOUR: 'it returns false'. Refute it at one input. -/
def netFullWrong : ChangeSpec := { name := "netFull", fn := fun _ => fun
  | [d1, d2] => { results := [.lit (.bool false)], args := [d1, d2] }
  | _ => none }
def NetFullWrongFalsely : Prop := netFullRow.holds Try.pinned (OpenSpec.ofChange netFullWrong)

/-- 'syngraphlaw17.NetCopies': WHATEVER THE INPUT: true; the input reads as it did. -/
def netCopiesSpec : ChangeSpec := { name := "netCopies", fn := fun _ => fun
  | [d1, d2] => { results := [.lit (.bool true)], args := [d1, d2] }
  | _ => none }
def netCopiesRow : OpenClaim := { program := "ytofmblkmfbioiaa", sum := "4973aee9a1ffe806ba2a34726636f878f6e189efa3a5eb87e68e525e8399b62e", func := "syngraph/syngraphlaw17.NetCopies", spec := "netCopies", apart := false }
def NetCopiesSaid : Prop := netCopiesRow.holds Try.pinned (OpenSpec.ofChange netCopiesSpec)

/-- ITS FALSE NEIGHBOUR: 'it returns false'. Refute it at one input. -/
def netCopiesWrong : ChangeSpec := { name := "netCopies", fn := fun _ => fun
  | [d1, d2] => { results := [.lit (.bool false)], args := [d1, d2] }
  | _ => none }
def NetCopiesWrongFalsely : Prop := netCopiesRow.holds Try.pinned (OpenSpec.ofChange netCopiesWrong)

/-- 'syngraphlaw17.NetOwn': WHATEVER THE INPUT: true; the input reads as it did. -/
def netOwnSpec : ChangeSpec := { name := "netOwn", fn := fun _ => fun
  | [d] => { results := [.lit (.bool true)], args := [d] }
  | _ => none }
def netOwnRow : OpenClaim := { program := "ytofmblkmfbioiaa", sum := "4973aee9a1ffe806ba2a34726636f878f6e189efa3a5eb87e68e525e8399b62e", func := "syngraph/syngraphlaw17.NetOwn", spec := "netOwn", unfollowed := true, recurses := true, apart := false }
def NetOwnSaid : Prop := netOwnRow.holds Try.pinned (OpenSpec.ofChange netOwnSpec)

/-- ITS FALSE NEIGHBOUR: 'it returns false'. Refute it at one input. -/
def netOwnWrong : ChangeSpec := { name := "netOwn", fn := fun _ => fun
  | [d] => { results := [.lit (.bool false)], args := [d] }
  | _ => none }
def NetOwnWrongFalsely : Prop := netOwnRow.holds Try.pinned (OpenSpec.ofChange netOwnWrong)

/-- 'syngraphlaw17.NetPlays': WHATEVER THE INPUT: true; the input reads as it did. -/
def netPlaysSpec : ChangeSpec := { name := "netPlays", fn := fun _ => fun
  | [d1, d2] => { results := [.lit (.bool true)], args := [d1, d2] }
  | _ => none }
def netPlaysRow : OpenClaim := { program := "ytofmblkmfbioiaa", sum := "4973aee9a1ffe806ba2a34726636f878f6e189efa3a5eb87e68e525e8399b62e", func := "syngraph/syngraphlaw17.NetPlays", spec := "netPlays", unfollowed := true, recurses := true, apart := false }
def NetPlaysSaid : Prop := netPlaysRow.holds Try.pinned (OpenSpec.ofChange netPlaysSpec)

/-- ITS FALSE NEIGHBOUR: 'it returns false'. Refute it at one input. -/
def netPlaysWrong : ChangeSpec := { name := "netPlays", fn := fun _ => fun
  | [d1, d2] => { results := [.lit (.bool false)], args := [d1, d2] }
  | _ => none }
def NetPlaysWrongFalsely : Prop := netPlaysRow.holds Try.pinned (OpenSpec.ofChange netPlaysWrong)

/-- 'syngraphlaw17.NetBetween': WHATEVER THE INPUT: true; the input reads as it did. -/
def netBetweenSpec : ChangeSpec := { name := "netBetween", fn := fun _ => fun
  | [d1, d2, d3] => { results := [.lit (.bool true)], args := [d1, d2, d3] }
  | _ => none }
def netBetweenRow : OpenClaim := { program := "ytofmblkmfbioiaa", sum := "4973aee9a1ffe806ba2a34726636f878f6e189efa3a5eb87e68e525e8399b62e", func := "syngraph/syngraphlaw17.NetBetween", spec := "netBetween", unfollowed := true, recurses := true, apart := false }
def NetBetweenSaid : Prop := netBetweenRow.holds Try.pinned (OpenSpec.ofChange netBetweenSpec)

/-- ITS FALSE NEIGHBOUR: 'it returns false'. Refute it at one input. -/
def netBetweenWrong : ChangeSpec := { name := "netBetween", fn := fun _ => fun
  | [d1, d2, d3] => { results := [.lit (.bool false)], args := [d1, d2, d3] }
  | _ => none }
def NetBetweenWrongFalsely : Prop := netBetweenRow.holds Try.pinned (OpenSpec.ofChange netBetweenWrong)

/- THE SECOND FORM. 'bulk': how many values and letters a reading holds, each counted each time it is reached (what is shared counts as often as it is met; a slice's spare places count too). A statement '..UptoSaid' is the law's where the arguments, and the package variables that the reading takes, are together of bulk at most 1048576: NARROWER than '..Said'. Prove '..Said' where nothing that the law and all that it calls make is longer than what came in: it says more and counts as full. Else prove '..UptoSaid'. A law counts once. -/
mutual
def uptoBulk {H : Type} : DataW H → Nat
  | .lit (.string bytes) => bytes.length + 1
  | .lit _ => 1
  | .nil => 1
  | .ptr d => uptoBulk d + 1
  | .slice elems spare => uptoBulkAll elems + uptoBulkAll spare + 1
  | .agg parts => uptoBulkAll parts + 1
  | .iface _ d => uptoBulk d + 1
  | .map entries => uptoBulkEntries entries + 1
  | .held _ => 1
def uptoBulkAll {H : Type} : List (DataW H) → Nat
  | [] => 0
  | d :: r => uptoBulk d + uptoBulkAll r
def uptoBulkEntries {H : Type} : List (Lit × DataW H) → Nat
  | [] => 0
  | x :: r => uptoBulkEntry x + uptoBulkEntries r
def uptoBulkEntry {H : Type} : Lit × DataW H → Nat
  | (.string bytes, d) => bytes.length + uptoBulk d + 1
  | (_, d) => uptoBulk d + 1
 end
def uptoSmall : (H : Type) → List (DataW H) → Bool := fun _ ds => decide (uptoBulkAll ds ≤ 1048576)
def OpenSpec.upto (s : _root_.Go.ChangeSpec) : _root_.Go.OpenSpec := { _root_.Go.OpenSpec.ofChange s with cond := some uptoSmall }

/-- 'syngraphlaw17.NetFull', WHERE WHAT IT READS IS OF BULK AT MOST 1048576: true; the input reads as it did. -/
def netFullUptoRow : OpenClaim := { program := "ytofmblkmfbioiaa", sum := "4973aee9a1ffe806ba2a34726636f878f6e189efa3a5eb87e68e525e8399b62e", func := "syngraph/syngraphlaw17.NetFull", spec := "netFull", apart := false, narrowed := true }
def NetFullUptoSaid : Prop := netFullUptoRow.holds Try.pinned (OpenSpec.upto netFullSpec)

/-- 'syngraphlaw17.NetCopies', WHERE WHAT IT READS IS OF BULK AT MOST 1048576: true; the input reads as it did. -/
def netCopiesUptoRow : OpenClaim := { program := "ytofmblkmfbioiaa", sum := "4973aee9a1ffe806ba2a34726636f878f6e189efa3a5eb87e68e525e8399b62e", func := "syngraph/syngraphlaw17.NetCopies", spec := "netCopies", apart := false, narrowed := true }
def NetCopiesUptoSaid : Prop := netCopiesUptoRow.holds Try.pinned (OpenSpec.upto netCopiesSpec)

/-- 'syngraphlaw17.NetOwn', WHERE WHAT IT READS IS OF BULK AT MOST 1048576: true; the input reads as it did. -/
def netOwnUptoRow : OpenClaim := { program := "ytofmblkmfbioiaa", sum := "4973aee9a1ffe806ba2a34726636f878f6e189efa3a5eb87e68e525e8399b62e", func := "syngraph/syngraphlaw17.NetOwn", spec := "netOwn", unfollowed := true, recurses := true, apart := false, narrowed := true }
def NetOwnUptoSaid : Prop := netOwnUptoRow.holds Try.pinned (OpenSpec.upto netOwnSpec)

/-- 'syngraphlaw17.NetPlays', WHERE WHAT IT READS IS OF BULK AT MOST 1048576: true; the input reads as it did. -/
def netPlaysUptoRow : OpenClaim := { program := "ytofmblkmfbioiaa", sum := "4973aee9a1ffe806ba2a34726636f878f6e189efa3a5eb87e68e525e8399b62e", func := "syngraph/syngraphlaw17.NetPlays", spec := "netPlays", unfollowed := true, recurses := true, apart := false, narrowed := true }
def NetPlaysUptoSaid : Prop := netPlaysUptoRow.holds Try.pinned (OpenSpec.upto netPlaysSpec)

/-- 'syngraphlaw17.NetBetween', WHERE WHAT IT READS IS OF BULK AT MOST 1048576: true; the input reads as it did. -/
def netBetweenUptoRow : OpenClaim := { program := "ytofmblkmfbioiaa", sum := "4973aee9a1ffe806ba2a34726636f878f6e189efa3a5eb87e68e525e8399b62e", func := "syngraph/syngraphlaw17.NetBetween", spec := "netBetween", unfollowed := true, recurses := true, apart := false, narrowed := true }
def NetBetweenUptoSaid : Prop := netBetweenUptoRow.holds Try.pinned (OpenSpec.upto netBetweenSpec)

end Rows
end Go.Proofs.Ytofmblkmfbioiaa
