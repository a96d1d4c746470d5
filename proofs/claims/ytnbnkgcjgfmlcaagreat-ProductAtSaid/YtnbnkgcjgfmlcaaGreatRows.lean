/-
  No cell of these rows narrows 'for every input' (looked for: loops, veiled, ifaces, maps, wideKeys, modest, calm, conditions, laid).
  DERIVED. THE GIVEN ROWS OF THIS SEAT. 3 by the template 'for every input the law returns true; each argument reads behind the call as it read before'; 0 by the template 'total and deterministic' (their statements: YtnbnkgcjgfmlcaaGreatTotals.lean).
  GIVEN WITH THE SEED: the statements are not yours to turn. If you find one false, say at which input.
  Laid BY PROGRAM, IN A SANDBOX (cutbox-rows.mjs): the forced cells as the released guide's own fill.sh prints them over the translation b04661aab47f0cc6… (all of the seat's roots in one cut). By AI agents, Wed Nov 11 2026. No macro, syntax, notation, axiom, sorry.
-/
import Derived.Test.YtnbnkgcjgfmlcaaGreatChecked
import GoSem.Claim
import GoSem.ClaimJoined
import GoSem.ClaimMapViews
import Derived.JoinedTies
import Derived.KernelRfl
namespace Go.Proofs.YtnbnkgcjgfmlcaaGreat
/- THE CELL 'sum', in the pinned program and in every row, IS THE sha256 OF THE DUMP (.gsa) THAT YtnbnkgcjgfmlcaaGreatProg.lean LOADS. Nothing in Lean hashes anything: it is a label: what it is worth is what the hold of that sum in a sandbox is worth. -/
noncomputable def Tryz.pinned : Pinned := { name := "ytnbnkgcjgfmlcaagreat", sum := "b04661aab47f0cc68ab6c61d1ac5201d0fa84a4f64dc01bd4008c1250a2f768a", checked := Tryz.checked }
namespace Rows
def none {H : Type} : Left H := { results := [], args := [] }

/-- 'wittinglaw27.ProductUpdates': WHATEVER THE INPUT: true; the input reads as it did. -/
def productUpdatesSpec : ChangeSpec := { name := "productUpdates", fn := fun _ => fun
  | [d1, d2] => { results := [.lit (.bool true)], args := [d1, d2] }
  | _ => none }
def productUpdatesRow : OpenClaim := { program := "ytnbnkgcjgfmlcaagreat", sum := "b04661aab47f0cc68ab6c61d1ac5201d0fa84a4f64dc01bd4008c1250a2f768a", func := "witting/wittinglaw27.ProductUpdates", spec := "productUpdates", unfollowed := true, recurses := true, plainKeys := false, apart := false }
def ProductUpdatesSaid : Prop := productUpdatesRow.holds Tryz.pinned (OpenSpec.ofChange productUpdatesSpec)

/-- ITS FALSE NEIGHBOUR: 'it returns false'. Refute it at one input. -/
def productUpdatesWrong : ChangeSpec := { name := "productUpdates", fn := fun _ => fun
  | [d1, d2] => { results := [.lit (.bool false)], args := [d1, d2] }
  | _ => none }
def ProductUpdatesWrongFalsely : Prop := productUpdatesRow.holds Tryz.pinned (OpenSpec.ofChange productUpdatesWrong)

/-- 'wittinglaw27.ProductAt': WHATEVER THE INPUT: true; the input reads as it did. -/
def productAtSpec : ChangeSpec := { name := "productAt", fn := fun _ => fun
  | [d1, d2, d3] => { results := [.lit (.bool true)], args := [d1, d2, d3] }
  | _ => none }
def productAtRow : OpenClaim := { program := "ytnbnkgcjgfmlcaagreat", sum := "b04661aab47f0cc68ab6c61d1ac5201d0fa84a4f64dc01bd4008c1250a2f768a", func := "witting/wittinglaw27.ProductAt", spec := "productAt", unfollowed := true, recurses := true, plainKeys := false, apart := false }
def ProductAtSaid : Prop := productAtRow.holds Tryz.pinned (OpenSpec.ofChange productAtSpec)

/-- ITS FALSE NEIGHBOUR: 'it returns false'. Refute it at one input. -/
def productAtWrong : ChangeSpec := { name := "productAt", fn := fun _ => fun
  | [d1, d2, d3] => { results := [.lit (.bool false)], args := [d1, d2, d3] }
  | _ => none }
def ProductAtWrongFalsely : Prop := productAtRow.holds Tryz.pinned (OpenSpec.ofChange productAtWrong)

/-- 'wittinglaw27.ProductSequence': WHATEVER THE INPUT: true; the input reads as it did. -/
def productSequenceSpec : ChangeSpec := { name := "productSequence", fn := fun _ => fun
  | [d1, d2] => { results := [.lit (.bool true)], args := [d1, d2] }
  | _ => none }
def productSequenceRow : OpenClaim := { program := "ytnbnkgcjgfmlcaagreat", sum := "b04661aab47f0cc68ab6c61d1ac5201d0fa84a4f64dc01bd4008c1250a2f768a", func := "witting/wittinglaw27.ProductSequence", spec := "productSequence", unfollowed := true, recurses := true, plainKeys := false, apart := false }
def ProductSequenceSaid : Prop := productSequenceRow.holds Tryz.pinned (OpenSpec.ofChange productSequenceSpec)

/-- ITS FALSE NEIGHBOUR: 'it returns false'. Refute it at one input. -/
def productSequenceWrong : ChangeSpec := { name := "productSequence", fn := fun _ => fun
  | [d1, d2] => { results := [.lit (.bool false)], args := [d1, d2] }
  | _ => none }
def ProductSequenceWrongFalsely : Prop := productSequenceRow.holds Tryz.pinned (OpenSpec.ofChange productSequenceWrong)

/- THE SECOND FORM. 'bulk': how many values and letters a reading holds, each counted each time it is reached (what is shared counts as often as it is met; a slice's spare places count too). A statement '..UptoSaid' is the law's where the arguments, and the package variables that the reading takes, are together of bulk at most 1048576: NARROWER than '..Said'. Prove '..Said' where nothing that the law and all that it calls make is longer than what came in: it says more and counts as full. Else prove '..UptoSaid'. A law counts once. -/
mutual
def uptoBulk {H : Type} : DataW H → Nat
  | .lit (.string bytes) => bytes.length + 1
  | .lit _ => 1
  | .nil => 1
  | .ptr d => uptoBulk d + 1
  | .slice elems spare => uptoBulkAll elems + uptoBulkAll spare + 1
  | .agg parts => uptoBulkAll parts + 1
  | .iface _ d => uptoBulk d + 1
  | .map entries => uptoBulkEntries entries + 1
  | .held _ => 1
def uptoBulkAll {H : Type} : List (DataW H) → Nat
  | [] => 0
  | d :: r => uptoBulk d + uptoBulkAll r
def uptoBulkEntries {H : Type} : List (Lit × DataW H) → Nat
  | [] => 0
  | x :: r => uptoBulkEntry x + uptoBulkEntries r
def uptoBulkEntry {H : Type} : Lit × DataW H → Nat
  | (.string bytes, d) => bytes.length + uptoBulk d + 1
  | (_, d) => uptoBulk d + 1
 end
def uptoSmall : (H : Type) → List (DataW H) → Bool := fun _ ds => decide (uptoBulkAll ds ≤ 1048576)
def OpenSpec.upto (s : _root_.Go.ChangeSpec) : _root_.Go.OpenSpec := { _root_.Go.OpenSpec.ofChange s with cond := some uptoSmall }

/-- 'wittinglaw27.ProductUpdates', WHERE WHAT IT READS IS OF BULK AT MOST 1048576: true; the input reads as it did. -/
def productUpdatesUptoRow : OpenClaim := { program := "ytnbnkgcjgfmlcaagreat", sum := "b04661aab47f0cc68ab6c61d1ac5201d0fa84a4f64dc01bd4008c1250a2f768a", func := "witting/wittinglaw27.ProductUpdates", spec := "productUpdates", unfollowed := true, recurses := true, plainKeys := false, apart := false, narrowed := true }
def ProductUpdatesUptoSaid : Prop := productUpdatesUptoRow.holds Tryz.pinned (OpenSpec.upto productUpdatesSpec)

/-- 'wittinglaw27.ProductAt', WHERE WHAT IT READS IS OF BULK AT MOST 1048576: true; the input reads as it did. -/
def productAtUptoRow : OpenClaim := { program := "ytnbnkgcjgfmlcaagreat", sum := "b04661aab47f0cc68ab6c61d1ac5201d0fa84a4f64dc01bd4008c1250a2f768a", func := "witting/wittinglaw27.ProductAt", spec := "productAt", unfollowed := true, recurses := true, plainKeys := false, apart := false, narrowed := true }
def ProductAtUptoSaid : Prop := productAtUptoRow.holds Tryz.pinned (OpenSpec.upto productAtSpec)

/-- 'wittinglaw27.ProductSequence', WHERE WHAT IT READS IS OF BULK AT MOST 1048576: true; the input reads as it did. -/
def productSequenceUptoRow : OpenClaim := { program := "ytnbnkgcjgfmlcaagreat", sum := "b04661aab47f0cc68ab6c61d1ac5201d0fa84a4f64dc01bd4008c1250a2f768a", func := "witting/wittinglaw27.ProductSequence", spec := "productSequence", unfollowed := true, recurses := true, plainKeys := false, apart := false, narrowed := true }
def ProductSequenceUptoSaid : Prop := productSequenceUptoRow.holds Tryz.pinned (OpenSpec.upto productSequenceSpec)

end Rows
end Go.Proofs.YtnbnkgcjgfmlcaaGreat
