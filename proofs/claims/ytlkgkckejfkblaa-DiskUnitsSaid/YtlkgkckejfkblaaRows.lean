/-
  No cell of these rows narrows 'for every input' (looked for: loops, veiled, ifaces, maps, wideKeys, modest, calm, conditions, laid).
  DERIVED. THE GIVEN ROWS OF THIS SEAT. 5 by the template 'for every input the law returns true; each argument reads behind the call as it read before'; 0 by the template 'total and deterministic' (their statements: YtlkgkckejfkblaaTotals.lean).
  GIVEN WITH THE SEED: the statements are not yours to turn. If you find one false, say at which input.
  Laid BY PROGRAM, IN A SANDBOX (cutbox-rows.mjs): the forced cells as the released guide's own fill.sh prints them over the translation 39643fe20598850f… (all of the seat's roots in one cut). By AI agents, Wed Nov 11 2026. No macro, syntax, notation, axiom, sorry.
-/
import Derived.Test.YtlkgkckejfkblaaChecked
import GoSem.Claim
import GoSem.ClaimJoined
import GoSem.ClaimMapViews
import Derived.JoinedTies
import Derived.KernelRfl
namespace Go.Proofs.Ytlkgkckejfkblaa
/- THE CELL 'sum', in the pinned program and in every row, IS THE sha256 OF THE DUMP (.gsa) THAT YtlkgkckejfkblaaProg.lean LOADS. Nothing in Lean hashes anything: it is a label: what it is worth is what the hold of that sum in a sandbox is worth. -/
noncomputable def Try.pinned : Pinned := { name := "ytlkgkckejfkblaa", sum := "39643fe20598850f5694477ee23ef6a81239e363817898f7790390d7b6835ef6", checked := Try.checked }
namespace Rows
def none {H : Type} : Left H := { results := [], args := [] }

/-- 'screelaw3.DiskNews': WHATEVER THE INPUT: true; the input reads as it did. -/
def diskNewsSpec : ChangeSpec := { name := "diskNews", fn := fun _ => fun
  | [d1, d2] => { results := [.lit (.bool true)], args := [d1, d2] }
  | _ => none }
def diskNewsRow : OpenClaim := { program := "ytlkgkckejfkblaa", sum := "39643fe20598850f5694477ee23ef6a81239e363817898f7790390d7b6835ef6", func := "scree/screelaw3.DiskNews", spec := "diskNews", inPlace := ["maps.clone"], unfollowed := true, recurses := true, apart := false }
def DiskNewsSaid : Prop := diskNewsRow.holds Try.pinned (OpenSpec.ofChange diskNewsSpec)

/-- ITS FALSE NEIGHBOUR: 'it returns false'. Refute it at one input. -/
def diskNewsWrong : ChangeSpec := { name := "diskNews", fn := fun _ => fun
  | [d1, d2] => { results := [.lit (.bool false)], args := [d1, d2] }
  | _ => none }
def DiskNewsWrongFalsely : Prop := diskNewsRow.holds Try.pinned (OpenSpec.ofChange diskNewsWrong)

/-- 'screelaw3.DiskKeeps': WHATEVER THE INPUT: true; the input reads as it did. -/
def diskKeepsSpec : ChangeSpec := { name := "diskKeeps", fn := fun _ => fun
  | [d1, d2, d3] => { results := [.lit (.bool true)], args := [d1, d2, d3] }
  | _ => none }
def diskKeepsRow : OpenClaim := { program := "ytlkgkckejfkblaa", sum := "39643fe20598850f5694477ee23ef6a81239e363817898f7790390d7b6835ef6", func := "scree/screelaw3.DiskKeeps", spec := "diskKeeps", inPlace := ["maps.clone"], unfollowed := true, recurses := true, apart := false }
def DiskKeepsSaid : Prop := diskKeepsRow.holds Try.pinned (OpenSpec.ofChange diskKeepsSpec)

/-- ITS FALSE NEIGHBOUR: 'it returns false'. Refute it at one input. -/
def diskKeepsWrong : ChangeSpec := { name := "diskKeeps", fn := fun _ => fun
  | [d1, d2, d3] => { results := [.lit (.bool false)], args := [d1, d2, d3] }
  | _ => none }
def DiskKeepsWrongFalsely : Prop := diskKeepsRow.holds Try.pinned (OpenSpec.ofChange diskKeepsWrong)

/-- 'screelaw3.DiskLooks': WHATEVER THE INPUT: true; the input reads as it did. -/
def diskLooksSpec : ChangeSpec := { name := "diskLooks", fn := fun _ => fun
  | [d1, d2, d3] => { results := [.lit (.bool true)], args := [d1, d2, d3] }
  | _ => none }
def diskLooksRow : OpenClaim := { program := "ytlkgkckejfkblaa", sum := "39643fe20598850f5694477ee23ef6a81239e363817898f7790390d7b6835ef6", func := "scree/screelaw3.DiskLooks", spec := "diskLooks", inPlace := ["maps.clone"], unfollowed := true, recurses := true, apart := false }
def DiskLooksSaid : Prop := diskLooksRow.holds Try.pinned (OpenSpec.ofChange diskLooksSpec)

/-- ITS FALSE NEIGHBOUR: 'it returns false'. Refute it at one input. -/
def diskLooksWrong : ChangeSpec := { name := "diskLooks", fn := fun _ => fun
  | [d1, d2, d3] => { results := [.lit (.bool false)], args := [d1, d2, d3] }
  | _ => none }
def DiskLooksWrongFalsely : Prop := diskLooksRow.holds Try.pinned (OpenSpec.ofChange diskLooksWrong)

/-- 'screelaw3.DiskUnits': WHATEVER THE INPUT: true; the input reads as it did. -/
def diskUnitsSpec : ChangeSpec := { name := "diskUnits", fn := fun _ => fun
  | [d1, d2, d3, d4] => { results := [.lit (.bool true)], args := [d1, d2, d3, d4] }
  | _ => none }
def diskUnitsRow : OpenClaim := { program := "ytlkgkckejfkblaa", sum := "39643fe20598850f5694477ee23ef6a81239e363817898f7790390d7b6835ef6", func := "scree/screelaw3.DiskUnits", spec := "diskUnits", inPlace := ["maps.clone"], unfollowed := true, recurses := true, apart := false }
def DiskUnitsSaid : Prop := diskUnitsRow.holds Try.pinned (OpenSpec.ofChange diskUnitsSpec)

/-- ITS FALSE NEIGHBOUR: 'it returns false'. Refute it at one input. -/
def diskUnitsWrong : ChangeSpec := { name := "diskUnits", fn := fun _ => fun
  | [d1, d2, d3, d4] => { results := [.lit (.bool false)], args := [d1, d2, d3, d4] }
  | _ => none }
def DiskUnitsWrongFalsely : Prop := diskUnitsRow.holds Try.pinned (OpenSpec.ofChange diskUnitsWrong)

/-- 'screelaw3.DiskMany': WHATEVER THE INPUT: true; the input reads as it did. -/
def diskManySpec : ChangeSpec := { name := "diskMany", fn := fun _ => fun
  | [d1, d2, d3] => { results := [.lit (.bool true)], args := [d1, d2, d3] }
  | _ => none }
def diskManyRow : OpenClaim := { program := "ytlkgkckejfkblaa", sum := "39643fe20598850f5694477ee23ef6a81239e363817898f7790390d7b6835ef6", func := "scree/screelaw3.DiskMany", spec := "diskMany", inPlace := ["maps.clone"], unfollowed := true, recurses := true, apart := false }
def DiskManySaid : Prop := diskManyRow.holds Try.pinned (OpenSpec.ofChange diskManySpec)

/-- ITS FALSE NEIGHBOUR: 'it returns false'. Refute it at one input. -/
def diskManyWrong : ChangeSpec := { name := "diskMany", fn := fun _ => fun
  | [d1, d2, d3] => { results := [.lit (.bool false)], args := [d1, d2, d3] }
  | _ => none }
def DiskManyWrongFalsely : Prop := diskManyRow.holds Try.pinned (OpenSpec.ofChange diskManyWrong)

/- THE SECOND FORM. 'bulk': how many values and letters a reading holds, each counted each time it is reached (what is shared counts as often as it is met; a slice's spare places count too). A statement '..UptoSaid' is the law's where the arguments, and the package variables that the reading takes, are together of bulk at most 1048576: NARROWER than '..Said'. Prove '..Said' where nothing that the law and all that it calls make is longer than what came in: it says more and counts as full. Else prove '..UptoSaid'. A law counts once. -/
mutual
def uptoBulk {H : Type} : DataW H → Nat
  | .lit (.string bytes) => bytes.length + 1
  | .lit _ => 1
  | .nil => 1
  | .ptr d => uptoBulk d + 1
  | .slice elems spare => uptoBulkAll elems + uptoBulkAll spare + 1
  | .agg parts => uptoBulkAll parts + 1
  | .iface _ d => uptoBulk d + 1
  | .map entries => uptoBulkEntries entries + 1
  | .held _ => 1
def uptoBulkAll {H : Type} : List (DataW H) → Nat
  | [] => 0
  | d :: r => uptoBulk d + uptoBulkAll r
def uptoBulkEntries {H : Type} : List (Lit × DataW H) → Nat
  | [] => 0
  | x :: r => uptoBulkEntry x + uptoBulkEntries r
def uptoBulkEntry {H : Type} : Lit × DataW H → Nat
  | (.string bytes, d) => bytes.length + uptoBulk d + 1
  | (_, d) => uptoBulk d + 1
 end
def uptoSmall : (H : Type) → List (DataW H) → Bool := fun _ ds => decide (uptoBulkAll ds ≤ 1048576)
def OpenSpec.upto (s : _root_.Go.ChangeSpec) : _root_.Go.OpenSpec := { _root_.Go.OpenSpec.ofChange s with cond := some uptoSmall }

/-- 'screelaw3.DiskNews', WHERE WHAT IT READS IS OF BULK AT MOST 1048576: true; the input reads as it did. -/
def diskNewsUptoRow : OpenClaim := { program := "ytlkgkckejfkblaa", sum := "39643fe20598850f5694477ee23ef6a81239e363817898f7790390d7b6835ef6", func := "scree/screelaw3.DiskNews", spec := "diskNews", inPlace := ["maps.clone"], unfollowed := true, recurses := true, apart := false, narrowed := true }
def DiskNewsUptoSaid : Prop := diskNewsUptoRow.holds Try.pinned (OpenSpec.upto diskNewsSpec)

/-- 'screelaw3.DiskKeeps', WHERE WHAT IT READS IS OF BULK AT MOST 1048576: true; the input reads as it did. -/
def diskKeepsUptoRow : OpenClaim := { program := "ytlkgkckejfkblaa", sum := "39643fe20598850f5694477ee23ef6a81239e363817898f7790390d7b6835ef6", func := "scree/screelaw3.DiskKeeps", spec := "diskKeeps", inPlace := ["maps.clone"], unfollowed := true, recurses := true, apart := false, narrowed := true }
def DiskKeepsUptoSaid : Prop := diskKeepsUptoRow.holds Try.pinned (OpenSpec.upto diskKeepsSpec)

/-- 'screelaw3.DiskLooks', WHERE WHAT IT READS IS OF BULK AT MOST 1048576: true; the input reads as it did. -/
def diskLooksUptoRow : OpenClaim := { program := "ytlkgkckejfkblaa", sum := "39643fe20598850f5694477ee23ef6a81239e363817898f7790390d7b6835ef6", func := "scree/screelaw3.DiskLooks", spec := "diskLooks", inPlace := ["maps.clone"], unfollowed := true, recurses := true, apart := false, narrowed := true }
def DiskLooksUptoSaid : Prop := diskLooksUptoRow.holds Try.pinned (OpenSpec.upto diskLooksSpec)

/-- 'screelaw3.DiskUnits', WHERE WHAT IT READS IS OF BULK AT MOST 1048576: true; the input reads as it did. -/
def diskUnitsUptoRow : OpenClaim := { program := "ytlkgkckejfkblaa", sum := "39643fe20598850f5694477ee23ef6a81239e363817898f7790390d7b6835ef6", func := "scree/screelaw3.DiskUnits", spec := "diskUnits", inPlace := ["maps.clone"], unfollowed := true, recurses := true, apart := false, narrowed := true }
def DiskUnitsUptoSaid : Prop := diskUnitsUptoRow.holds Try.pinned (OpenSpec.upto diskUnitsSpec)

/-- 'screelaw3.DiskMany', WHERE WHAT IT READS IS OF BULK AT MOST 1048576: true; the input reads as it did. -/
def diskManyUptoRow : OpenClaim := { program := "ytlkgkckejfkblaa", sum := "39643fe20598850f5694477ee23ef6a81239e363817898f7790390d7b6835ef6", func := "scree/screelaw3.DiskMany", spec := "diskMany", inPlace := ["maps.clone"], unfollowed := true, recurses := true, apart := false, narrowed := true }
def DiskManyUptoSaid : Prop := diskManyUptoRow.holds Try.pinned (OpenSpec.upto diskManySpec)

end Rows
end Go.Proofs.Ytlkgkckejfkblaa
