/-
  No cell of these rows narrows 'for every input' (looked for: loops, veiled, ifaces, maps, wideKeys, modest, calm, conditions, laid).
  DERIVED. THE GIVEN ROWS OF THIS SEAT. 7 by the template 'for every input the law returns true; each argument reads behind the call as it read before'; 0 by the template 'total and deterministic' (their statements: YtnbnkgcjgfmlcaaTotals.lean).
  GIVEN WITH THE SEED: the statements are not yours to turn. If you find one false, say at which input.
  Laid BY PROGRAM, IN A SANDBOX (cutbox-rows.mjs): the forced cells as the released guide's own fill.sh prints them over the translation 9fc30948df174a3e… (all of the seat's roots in one cut). By AI agents, Wed Nov 11 2026. No macro, syntax, notation, axiom, sorry.
-/
import Derived.Test.YtnbnkgcjgfmlcaaChecked
import GoSem.Claim
import GoSem.ClaimJoined
import GoSem.ClaimMapViews
import Derived.JoinedTies
import Derived.KernelRfl
namespace Go.Proofs.Ytnbnkgcjgfmlcaa
/- THE CELL 'sum', in the pinned program and in every row, IS THE sha256 OF THE DUMP (.gsa) THAT YtnbnkgcjgfmlcaaProg.lean LOADS. Nothing in Lean hashes anything: it is a label: what it is worth is what the hold of that sum in a sandbox is worth. -/
noncomputable def Try.pinned : Pinned := { name := "ytnbnkgcjgfmlcaa", sum := "9fc30948df174a3e9c2bb08541d74e4a16e1512a3a5d52499ff8d701fbeb8f7d", checked := Try.checked }
namespace Rows
def none {H : Type} : Left H := { results := [], args := [] }

/-- 'wittinglaw27.ProductKeeps': WHATEVER THE INPUT: true; the input reads as it did. -/
def productKeepsSpec : ChangeSpec := { name := "productKeeps", fn := fun _ => fun
  | [d1, d2] => { results := [.lit (.bool true)], args := [d1, d2] }
  | _ => none }
def productKeepsRow : OpenClaim := { program := "ytnbnkgcjgfmlcaa", sum := "9fc30948df174a3e9c2bb08541d74e4a16e1512a3a5d52499ff8d701fbeb8f7d", func := "witting/wittinglaw27.ProductKeeps", spec := "productKeeps", unfollowed := true, recurses := true, plainKeys := false, apart := false }
def ProductKeepsSaid : Prop := productKeepsRow.holds Try.pinned (OpenSpec.ofChange productKeepsSpec)

/-- ITS FALSE NEIGHBOUR: 'it returns false'. Refute it at one input. -/
def productKeepsWrong : ChangeSpec := { name := "productKeeps", fn := fun _ => fun
  | [d1, d2] => { results := [.lit (.bool false)], args := [d1, d2] }
  | _ => none }
def ProductKeepsWrongFalsely : Prop := productKeepsRow.holds Try.pinned (OpenSpec.ofChange productKeepsWrong)

/-- 'wittinglaw27.ProductTrue': WHATEVER THE INPUT: true; the input reads as it did. -/
def productTrueSpec : ChangeSpec := { name := "productTrue", fn := fun _ => fun
  | [d1, d2] => { results := [.lit (.bool true)], args := [d1, d2] }
  | _ => none }
def productTrueRow : OpenClaim := { program := "ytnbnkgcjgfmlcaa", sum := "9fc30948df174a3e9c2bb08541d74e4a16e1512a3a5d52499ff8d701fbeb8f7d", func := "witting/wittinglaw27.ProductTrue", spec := "productTrue", unfollowed := true, recurses := true, plainKeys := false, apart := false }
def ProductTrueSaid : Prop := productTrueRow.holds Try.pinned (OpenSpec.ofChange productTrueSpec)

/-- ITS FALSE NEIGHBOUR: 'it returns false'. Refute it at one input. -/
def productTrueWrong : ChangeSpec := { name := "productTrue", fn := fun _ => fun
  | [d1, d2] => { results := [.lit (.bool false)], args := [d1, d2] }
  | _ => none }
def ProductTrueWrongFalsely : Prop := productTrueRow.holds Try.pinned (OpenSpec.ofChange productTrueWrong)

/-- 'wittinglaw27.ProductSkips': WHATEVER THE INPUT: true; the input reads as it did. -/
def productSkipsSpec : ChangeSpec := { name := "productSkips", fn := fun _ => fun
  | [d] => { results := [.lit (.bool true)], args := [d] }
  | _ => none }
def productSkipsRow : OpenClaim := { program := "ytnbnkgcjgfmlcaa", sum := "9fc30948df174a3e9c2bb08541d74e4a16e1512a3a5d52499ff8d701fbeb8f7d", func := "witting/wittinglaw27.ProductSkips", spec := "productSkips", unfollowed := true, recurses := true, plainKeys := false, apart := false }
def ProductSkipsSaid : Prop := productSkipsRow.holds Try.pinned (OpenSpec.ofChange productSkipsSpec)

/-- ITS FALSE NEIGHBOUR: 'it returns false'. Refute it at one input. -/
def productSkipsWrong : ChangeSpec := { name := "productSkips", fn := fun _ => fun
  | [d] => { results := [.lit (.bool false)], args := [d] }
  | _ => none }
def ProductSkipsWrongFalsely : Prop := productSkipsRow.holds Try.pinned (OpenSpec.ofChange productSkipsWrong)

/-- 'wittinglaw29.MessagesTossed': WHATEVER THE INPUT: true; the input reads as it did. -/
def messagesTossedSpec : ChangeSpec := { name := "messagesTossed", fn := fun _ => fun
  | [d1, d2] => { results := [.lit (.bool true)], args := [d1, d2] }
  | _ => none }
def messagesTossedRow : OpenClaim := { program := "ytnbnkgcjgfmlcaa", sum := "9fc30948df174a3e9c2bb08541d74e4a16e1512a3a5d52499ff8d701fbeb8f7d", func := "witting/wittinglaw29.MessagesTossed", spec := "messagesTossed", unfollowed := true, recurses := true, plainKeys := false, apart := false }
def MessagesTossedSaid : Prop := messagesTossedRow.holds Try.pinned (OpenSpec.ofChange messagesTossedSpec)

/-- ITS FALSE NEIGHBOUR: 'it returns false'. Refute it at one input. -/
def messagesTossedWrong : ChangeSpec := { name := "messagesTossed", fn := fun _ => fun
  | [d1, d2] => { results := [.lit (.bool false)], args := [d1, d2] }
  | _ => none }
def MessagesTossedWrongFalsely : Prop := messagesTossedRow.holds Try.pinned (OpenSpec.ofChange messagesTossedWrong)

/-- 'wittinglaw29.MessagesPrivately': WHATEVER THE INPUT: true; the input reads as it did. -/
def messagesPrivatelySpec : ChangeSpec := { name := "messagesPrivately", fn := fun _ => fun
  | [d1, d2, d3] => { results := [.lit (.bool true)], args := [d1, d2, d3] }
  | _ => none }
def messagesPrivatelyRow : OpenClaim := { program := "ytnbnkgcjgfmlcaa", sum := "9fc30948df174a3e9c2bb08541d74e4a16e1512a3a5d52499ff8d701fbeb8f7d", func := "witting/wittinglaw29.MessagesPrivately", spec := "messagesPrivately", unfollowed := true, recurses := true, plainKeys := false, apart := false }
def MessagesPrivatelySaid : Prop := messagesPrivatelyRow.holds Try.pinned (OpenSpec.ofChange messagesPrivatelySpec)

/-- ITS FALSE NEIGHBOUR: 'it returns false'. Refute it at one input. -/
def messagesPrivatelyWrong : ChangeSpec := { name := "messagesPrivately", fn := fun _ => fun
  | [d1, d2, d3] => { results := [.lit (.bool false)], args := [d1, d2, d3] }
  | _ => none }
def MessagesPrivatelyWrongFalsely : Prop := messagesPrivatelyRow.holds Try.pinned (OpenSpec.ofChange messagesPrivatelyWrong)

/-- 'wittinglaw29.MessagesOpenly': WHATEVER THE INPUT: true; the input reads as it did. -/
def messagesOpenlySpec : ChangeSpec := { name := "messagesOpenly", fn := fun _ => fun
  | [d1, d2, d3] => { results := [.lit (.bool true)], args := [d1, d2, d3] }
  | _ => none }
def messagesOpenlyRow : OpenClaim := { program := "ytnbnkgcjgfmlcaa", sum := "9fc30948df174a3e9c2bb08541d74e4a16e1512a3a5d52499ff8d701fbeb8f7d", func := "witting/wittinglaw29.MessagesOpenly", spec := "messagesOpenly", unfollowed := true, recurses := true, plainKeys := false, apart := false }
def MessagesOpenlySaid : Prop := messagesOpenlyRow.holds Try.pinned (OpenSpec.ofChange messagesOpenlySpec)

/-- ITS FALSE NEIGHBOUR: 'it returns false'. Refute it at one input. -/
def messagesOpenlyWrong : ChangeSpec := { name := "messagesOpenly", fn := fun _ => fun
  | [d1, d2, d3] => { results := [.lit (.bool false)], args := [d1, d2, d3] }
  | _ => none }
def MessagesOpenlyWrongFalsely : Prop := messagesOpenlyRow.holds Try.pinned (OpenSpec.ofChange messagesOpenlyWrong)

/-- 'wittinglaw29.MessagesSecretly': WHATEVER THE INPUT: true; the input reads as it did. -/
def messagesSecretlySpec : ChangeSpec := { name := "messagesSecretly", fn := fun _ => fun
  | [d1, d2, d3] => { results := [.lit (.bool true)], args := [d1, d2, d3] }
  | _ => none }
def messagesSecretlyRow : OpenClaim := { program := "ytnbnkgcjgfmlcaa", sum := "9fc30948df174a3e9c2bb08541d74e4a16e1512a3a5d52499ff8d701fbeb8f7d", func := "witting/wittinglaw29.MessagesSecretly", spec := "messagesSecretly", unfollowed := true, recurses := true, plainKeys := false, apart := false }
def MessagesSecretlySaid : Prop := messagesSecretlyRow.holds Try.pinned (OpenSpec.ofChange messagesSecretlySpec)

/-- ITS FALSE NEIGHBOUR: 'it returns false'. Refute it at one input. -/
def messagesSecretlyWrong : ChangeSpec := { name := "messagesSecretly", fn := fun _ => fun
  | [d1, d2, d3] => { results := [.lit (.bool false)], args := [d1, d2, d3] }
  | _ => none }
def MessagesSecretlyWrongFalsely : Prop := messagesSecretlyRow.holds Try.pinned (OpenSpec.ofChange messagesSecretlyWrong)

/- THE SECOND FORM. 'bulk': how many values and letters a reading holds, each counted each time it is reached (what is shared counts as often as it is met; a slice's spare places count too). A statement '..UptoSaid' is the law's where the arguments, and the package variables that the reading takes, are together of bulk at most 1048576: NARROWER than '..Said'. Prove '..Said' where nothing that the law and all that it calls make is longer than what came in: it says more and counts as full. Else prove '..UptoSaid'. A law counts once. -/
mutual
def uptoBulk {H : Type} : DataW H → Nat
  | .lit (.string bytes) => bytes.length + 1
  | .lit _ => 1
  | .nil => 1
  | .ptr d => uptoBulk d + 1
  | .slice elems spare => uptoBulkAll elems + uptoBulkAll spare + 1
  | .agg parts => uptoBulkAll parts + 1
  | .iface _ d => uptoBulk d + 1
  | .map entries => uptoBulkEntries entries + 1
  | .held _ => 1
def uptoBulkAll {H : Type} : List (DataW H) → Nat
  | [] => 0
  | d :: r => uptoBulk d + uptoBulkAll r
def uptoBulkEntries {H : Type} : List (Lit × DataW H) → Nat
  | [] => 0
  | x :: r => uptoBulkEntry x + uptoBulkEntries r
def uptoBulkEntry {H : Type} : Lit × DataW H → Nat
  | (.string bytes, d) => bytes.length + uptoBulk d + 1
  | (_, d) => uptoBulk d + 1
 end
def uptoSmall : (H : Type) → List (DataW H) → Bool := fun _ ds => decide (uptoBulkAll ds ≤ 1048576)
def OpenSpec.upto (s : _root_.Go.ChangeSpec) : _root_.Go.OpenSpec := { _root_.Go.OpenSpec.ofChange s with cond := some uptoSmall }

/-- 'wittinglaw27.ProductKeeps', WHERE WHAT IT READS IS OF BULK AT MOST 1048576: true; the input reads as it did. -/
def productKeepsUptoRow : OpenClaim := { program := "ytnbnkgcjgfmlcaa", sum := "9fc30948df174a3e9c2bb08541d74e4a16e1512a3a5d52499ff8d701fbeb8f7d", func := "witting/wittinglaw27.ProductKeeps", spec := "productKeeps", unfollowed := true, recurses := true, plainKeys := false, apart := false, narrowed := true }
def ProductKeepsUptoSaid : Prop := productKeepsUptoRow.holds Try.pinned (OpenSpec.upto productKeepsSpec)

/-- 'wittinglaw27.ProductTrue', WHERE WHAT IT READS IS OF BULK AT MOST 1048576: true; the input reads as it did. -/
def productTrueUptoRow : OpenClaim := { program := "ytnbnkgcjgfmlcaa", sum := "9fc30948df174a3e9c2bb08541d74e4a16e1512a3a5d52499ff8d701fbeb8f7d", func := "witting/wittinglaw27.ProductTrue", spec := "productTrue", unfollowed := true, recurses := true, plainKeys := false, apart := false, narrowed := true }
def ProductTrueUptoSaid : Prop := productTrueUptoRow.holds Try.pinned (OpenSpec.upto productTrueSpec)

/-- 'wittinglaw27.ProductSkips', WHERE WHAT IT READS IS OF BULK AT MOST 1048576: true; the input reads as it did. -/
def productSkipsUptoRow : OpenClaim := { program := "ytnbnkgcjgfmlcaa", sum := "9fc30948df174a3e9c2bb08541d74e4a16e1512a3a5d52499ff8d701fbeb8f7d", func := "witting/wittinglaw27.ProductSkips", spec := "productSkips", unfollowed := true, recurses := true, plainKeys := false, apart := false, narrowed := true }
def ProductSkipsUptoSaid : Prop := productSkipsUptoRow.holds Try.pinned (OpenSpec.upto productSkipsSpec)

/-- 'wittinglaw29.MessagesTossed', WHERE WHAT IT READS IS OF BULK AT MOST 1048576: true; the input reads as it did. -/
def messagesTossedUptoRow : OpenClaim := { program := "ytnbnkgcjgfmlcaa", sum := "9fc30948df174a3e9c2bb08541d74e4a16e1512a3a5d52499ff8d701fbeb8f7d", func := "witting/wittinglaw29.MessagesTossed", spec := "messagesTossed", unfollowed := true, recurses := true, plainKeys := false, apart := false, narrowed := true }
def MessagesTossedUptoSaid : Prop := messagesTossedUptoRow.holds Try.pinned (OpenSpec.upto messagesTossedSpec)

/-- 'wittinglaw29.MessagesPrivately', WHERE WHAT IT READS IS OF BULK AT MOST 1048576: true; the input reads as it did. -/
def messagesPrivatelyUptoRow : OpenClaim := { program := "ytnbnkgcjgfmlcaa", sum := "9fc30948df174a3e9c2bb08541d74e4a16e1512a3a5d52499ff8d701fbeb8f7d", func := "witting/wittinglaw29.MessagesPrivately", spec := "messagesPrivately", unfollowed := true, recurses := true, plainKeys := false, apart := false, narrowed := true }
def MessagesPrivatelyUptoSaid : Prop := messagesPrivatelyUptoRow.holds Try.pinned (OpenSpec.upto messagesPrivatelySpec)

/-- 'wittinglaw29.MessagesOpenly', WHERE WHAT IT READS IS OF BULK AT MOST 1048576: true; the input reads as it did. -/
def messagesOpenlyUptoRow : OpenClaim := { program := "ytnbnkgcjgfmlcaa", sum := "9fc30948df174a3e9c2bb08541d74e4a16e1512a3a5d52499ff8d701fbeb8f7d", func := "witting/wittinglaw29.MessagesOpenly", spec := "messagesOpenly", unfollowed := true, recurses := true, plainKeys := false, apart := false, narrowed := true }
def MessagesOpenlyUptoSaid : Prop := messagesOpenlyUptoRow.holds Try.pinned (OpenSpec.upto messagesOpenlySpec)

/-- 'wittinglaw29.MessagesSecretly', WHERE WHAT IT READS IS OF BULK AT MOST 1048576: true; the input reads as it did. -/
def messagesSecretlyUptoRow : OpenClaim := { program := "ytnbnkgcjgfmlcaa", sum := "9fc30948df174a3e9c2bb08541d74e4a16e1512a3a5d52499ff8d701fbeb8f7d", func := "witting/wittinglaw29.MessagesSecretly", spec := "messagesSecretly", unfollowed := true, recurses := true, plainKeys := false, apart := false, narrowed := true }
def MessagesSecretlyUptoSaid : Prop := messagesSecretlyUptoRow.holds Try.pinned (OpenSpec.upto messagesSecretlySpec)

end Rows
end Go.Proofs.Ytnbnkgcjgfmlcaa
