/-
  No cell of these rows narrows 'for every input' (looked for: loops, veiled, ifaces, maps, wideKeys, modest, calm, conditions, laid).
  DERIVED. THE GIVEN ROWS OF THIS SEAT. 4 by the template 'for every input the law returns true; each argument reads behind the call as it read before'; 0 by the template 'total and deterministic' (their statements: YthpopjlolgjkdaaTotals.lean).
  GIVEN WITH THE SEED: the statements are not yours to turn. If you find one false, say at which input.
  Laid BY PROGRAM, IN A SANDBOX (cutbox-rows.mjs): the forced cells as the released guide's own fill.sh prints them over the translation dea22cf5d72a271f… (all of the seat's roots in one cut). By AI agents, Wed Nov 11 2026. No macro, syntax, notation, axiom, sorry.
-/
import Derived.Test.YthpopjlolgjkdaaChecked
import GoSem.Claim
import GoSem.ClaimJoined
import GoSem.ClaimMapViews
import Derived.JoinedTies
import Derived.KernelRfl
namespace Go.Proofs.Ythpopjlolgjkdaa
/- THE CELL 'sum', in the pinned program and in every row, IS THE sha256 OF THE DUMP (.gsa) THAT YthpopjlolgjkdaaProg.lean LOADS. Nothing in Lean hashes anything: it is a label: what it is worth is what the hold of that sum in a sandbox is worth. -/
noncomputable def Try.pinned : Pinned := { name := "ythpopjlolgjkdaa", sum := "dea22cf5d72a271f23d0485d6edd7d586935807021b6a51ae944fb88ee70a860", checked := Try.checked }
namespace Rows
def none {H : Type} : Left H := { results := [], args := [] }

/-- 'minecontrollaw38.RopeRaw': WHATEVER THE INPUT: true; the input reads as it did. -/
def ropeRawSpec : ChangeSpec := { name := "ropeRaw", fn := fun _ => fun
  | [d1, d2, d3] => { results := [.lit (.bool true)], args := [d1, d2, d3] }
  | _ => none }
def ropeRawRow : OpenClaim := { program := "ythpopjlolgjkdaa", sum := "dea22cf5d72a271f23d0485d6edd7d586935807021b6a51ae944fb88ee70a860", func := "minecontrol/minecontrollaw38.RopeRaw", spec := "ropeRaw", apart := false }
def RopeRawSaid : Prop := ropeRawRow.holds Try.pinned (OpenSpec.ofChange ropeRawSpec)

/-- ITS FALSE NEIGHBOUR: 'it returns false'. Refute it at one input. -/
def ropeRawWrong : ChangeSpec := { name := "ropeRaw", fn := fun _ => fun
  | [d1, d2, d3] => { results := [.lit (.bool false)], args := [d1, d2, d3] }
  | _ => none }
def RopeRawWrongFalsely : Prop := ropeRawRow.holds Try.pinned (OpenSpec.ofChange ropeRawWrong)

/-- 'minecontrollaw38.RopeMade': WHATEVER THE INPUT: true; the input reads as it did. -/
def ropeMadeSpec : ChangeSpec := { name := "ropeMade", fn := fun _ => fun
  | [d] => { results := [.lit (.bool true)], args := [d] }
  | _ => none }
def ropeMadeRow : OpenClaim := { program := "ythpopjlolgjkdaa", sum := "dea22cf5d72a271f23d0485d6edd7d586935807021b6a51ae944fb88ee70a860", func := "minecontrol/minecontrollaw38.RopeMade", spec := "ropeMade", apart := false }
def RopeMadeSaid : Prop := ropeMadeRow.holds Try.pinned (OpenSpec.ofChange ropeMadeSpec)

/-- ITS FALSE NEIGHBOUR: 'it returns false'. Refute it at one input. -/
def ropeMadeWrong : ChangeSpec := { name := "ropeMade", fn := fun _ => fun
  | [d] => { results := [.lit (.bool false)], args := [d] }
  | _ => none }
def RopeMadeWrongFalsely : Prop := ropeMadeRow.holds Try.pinned (OpenSpec.ofChange ropeMadeWrong)

/-- 'minecontrollaw38.RopeNotices': WHATEVER THE INPUT: true; the input reads as it did. -/
def ropeNoticesSpec : ChangeSpec := { name := "ropeNotices", fn := fun _ => fun
  | [d] => { results := [.lit (.bool true)], args := [d] }
  | _ => none }
def ropeNoticesRow : OpenClaim := { program := "ythpopjlolgjkdaa", sum := "dea22cf5d72a271f23d0485d6edd7d586935807021b6a51ae944fb88ee70a860", func := "minecontrol/minecontrollaw38.RopeNotices", spec := "ropeNotices", apart := false }
def RopeNoticesSaid : Prop := ropeNoticesRow.holds Try.pinned (OpenSpec.ofChange ropeNoticesSpec)

/-- ITS FALSE NEIGHBOUR: 'it returns false'. Refute it at one input. -/
def ropeNoticesWrong : ChangeSpec := { name := "ropeNotices", fn := fun _ => fun
  | [d] => { results := [.lit (.bool false)], args := [d] }
  | _ => none }
def RopeNoticesWrongFalsely : Prop := ropeNoticesRow.holds Try.pinned (OpenSpec.ofChange ropeNoticesWrong)

/-- 'minecontrollaw38.RopeTwice': WHATEVER THE INPUT: true; the input reads as it did. -/
def ropeTwiceSpec : ChangeSpec := { name := "ropeTwice", fn := fun _ => fun
  | [d] => { results := [.lit (.bool true)], args := [d] }
  | _ => none }
def ropeTwiceRow : OpenClaim := { program := "ythpopjlolgjkdaa", sum := "dea22cf5d72a271f23d0485d6edd7d586935807021b6a51ae944fb88ee70a860", func := "minecontrol/minecontrollaw38.RopeTwice", spec := "ropeTwice", apart := false }
def RopeTwiceSaid : Prop := ropeTwiceRow.holds Try.pinned (OpenSpec.ofChange ropeTwiceSpec)

/-- ITS FALSE NEIGHBOUR: 'it returns false'. Refute it at one input. -/
def ropeTwiceWrong : ChangeSpec := { name := "ropeTwice", fn := fun _ => fun
  | [d] => { results := [.lit (.bool false)], args := [d] }
  | _ => none }
def RopeTwiceWrongFalsely : Prop := ropeTwiceRow.holds Try.pinned (OpenSpec.ofChange ropeTwiceWrong)

/- THE SECOND FORM. 'bulk': how many values and letters a reading holds, each counted each time it is reached (what is shared counts as often as it is met; a slice's spare places count too). A statement '..UptoSaid' is the law's where the arguments, and the package variables that the reading takes, are together of bulk at most 1048576: NARROWER than '..Said'. Prove '..Said' where nothing that the law and all that it calls make is longer than what came in: it says more and counts as full. Else prove '..UptoSaid'. A law counts once. -/
mutual
def uptoBulk {H : Type} : DataW H → Nat
  | .lit (.string bytes) => bytes.length + 1
  | .lit _ => 1
  | .nil => 1
  | .ptr d => uptoBulk d + 1
  | .slice elems spare => uptoBulkAll elems + uptoBulkAll spare + 1
  | .agg parts => uptoBulkAll parts + 1
  | .iface _ d => uptoBulk d + 1
  | .map entries => uptoBulkEntries entries + 1
  | .held _ => 1
def uptoBulkAll {H : Type} : List (DataW H) → Nat
  | [] => 0
  | d :: r => uptoBulk d + uptoBulkAll r
def uptoBulkEntries {H : Type} : List (Lit × DataW H) → Nat
  | [] => 0
  | x :: r => uptoBulkEntry x + uptoBulkEntries r
def uptoBulkEntry {H : Type} : Lit × DataW H → Nat
  | (.string bytes, d) => bytes.length + uptoBulk d + 1
  | (_, d) => uptoBulk d + 1
 end
def uptoSmall : (H : Type) → List (DataW H) → Bool := fun _ ds => decide (uptoBulkAll ds ≤ 1048576)
def OpenSpec.upto (s : _root_.Go.ChangeSpec) : _root_.Go.OpenSpec := { _root_.Go.OpenSpec.ofChange s with cond := some uptoSmall }

/-- 'minecontrollaw38.RopeRaw', WHERE WHAT IT READS IS OF BULK AT MOST 1048576: true; the input reads as it did. -/
def ropeRawUptoRow : OpenClaim := { program := "ythpopjlolgjkdaa", sum := "dea22cf5d72a271f23d0485d6edd7d586935807021b6a51ae944fb88ee70a860", func := "minecontrol/minecontrollaw38.RopeRaw", spec := "ropeRaw", apart := false, narrowed := true }
def RopeRawUptoSaid : Prop := ropeRawUptoRow.holds Try.pinned (OpenSpec.upto ropeRawSpec)

/-- 'minecontrollaw38.RopeMade', WHERE WHAT IT READS IS OF BULK AT MOST 1048576: true; the input reads as it did. -/
def ropeMadeUptoRow : OpenClaim := { program := "ythpopjlolgjkdaa", sum := "dea22cf5d72a271f23d0485d6edd7d586935807021b6a51ae944fb88ee70a860", func := "minecontrol/minecontrollaw38.RopeMade", spec := "ropeMade", apart := false, narrowed := true }
def RopeMadeUptoSaid : Prop := ropeMadeUptoRow.holds Try.pinned (OpenSpec.upto ropeMadeSpec)

/-- 'minecontrollaw38.RopeNotices', WHERE WHAT IT READS IS OF BULK AT MOST 1048576: true; the input reads as it did. -/
def ropeNoticesUptoRow : OpenClaim := { program := "ythpopjlolgjkdaa", sum := "dea22cf5d72a271f23d0485d6edd7d586935807021b6a51ae944fb88ee70a860", func := "minecontrol/minecontrollaw38.RopeNotices", spec := "ropeNotices", apart := false, narrowed := true }
def RopeNoticesUptoSaid : Prop := ropeNoticesUptoRow.holds Try.pinned (OpenSpec.upto ropeNoticesSpec)

/-- 'minecontrollaw38.RopeTwice', WHERE WHAT IT READS IS OF BULK AT MOST 1048576: true; the input reads as it did. -/
def ropeTwiceUptoRow : OpenClaim := { program := "ythpopjlolgjkdaa", sum := "dea22cf5d72a271f23d0485d6edd7d586935807021b6a51ae944fb88ee70a860", func := "minecontrol/minecontrollaw38.RopeTwice", spec := "ropeTwice", apart := false, narrowed := true }
def RopeTwiceUptoSaid : Prop := ropeTwiceUptoRow.holds Try.pinned (OpenSpec.upto ropeTwiceSpec)

end Rows
end Go.Proofs.Ythpopjlolgjkdaa
