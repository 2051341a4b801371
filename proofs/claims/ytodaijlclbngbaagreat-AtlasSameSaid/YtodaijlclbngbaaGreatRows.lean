/-
  No cell of these rows narrows 'for every input' (looked for: loops, veiled, ifaces, maps, wideKeys, modest, calm, conditions, laid).
  DERIVED. THE GIVEN ROWS OF THIS SEAT. 5 by the template 'for every input the law returns true; each argument reads behind the call as it read before'; 0 by the template 'total and deterministic' (their statements: YtodaijlclbngbaaGreatTotals.lean).
  GIVEN WITH THE SEED: the statements are not yours to turn. If you find one false, say at which input.
  Laid BY PROGRAM, IN A SANDBOX (cutbox-rows.mjs): the forced cells as the released guide's own fill.sh prints them over the translation 527db688c3a1bba3… (all of the seat's roots in one cut). By AI agents, Wed Nov 11 2026. No macro, syntax, notation, axiom, sorry.
-/
import Derived.Test.YtodaijlclbngbaaGreatChecked
import GoSem.Claim
import GoSem.ClaimJoined
import GoSem.ClaimMapViews
import Derived.JoinedTies
import Derived.KernelRfl
namespace Go.Proofs.YtodaijlclbngbaaGreat
/- THE CELL 'sum', in the pinned program and in every row, IS THE sha256 OF THE DUMP (.gsa) THAT YtodaijlclbngbaaGreatProg.lean LOADS. Nothing in Lean hashes anything: it is a label: what it is worth is what the hold of that sum in a sandbox is worth. -/
noncomputable def Tryz.pinned : Pinned := { name := "ytodaijlclbngbaagreat", sum := "527db688c3a1bba364044c02bdd16b6565dbb5081a5944bd223d3552c08d1dcc", checked := Tryz.checked }
namespace Rows
def none {H : Type} : Left H := { results := [], args := [] }

/-- 'wayfinderlaw17.AtlasKeeps': WHATEVER THE INPUT: true; the input reads as it did. -/
def atlasKeepsSpec : ChangeSpec := { name := "atlasKeeps", fn := fun _ => fun
  | [d] => { results := [.lit (.bool true)], args := [d] }
  | _ => none }
def atlasKeepsRow : OpenClaim := { program := "ytodaijlclbngbaagreat", sum := "527db688c3a1bba364044c02bdd16b6565dbb5081a5944bd223d3552c08d1dcc", func := "wayfinder/wayfinderlaw17.AtlasKeeps", spec := "atlasKeeps", unfollowed := true, recurses := true, plainKeys := false, apart := false }
def AtlasKeepsSaid : Prop := atlasKeepsRow.holds Tryz.pinned (OpenSpec.ofChange atlasKeepsSpec)

/-- ITS FALSE NEIGHBOUR: 'it returns false'. Refute it at one input. -/
def atlasKeepsWrong : ChangeSpec := { name := "atlasKeeps", fn := fun _ => fun
  | [d] => { results := [.lit (.bool false)], args := [d] }
  | _ => none }
def AtlasKeepsWrongFalsely : Prop := atlasKeepsRow.holds Tryz.pinned (OpenSpec.ofChange atlasKeepsWrong)

/-- 'wayfinderlaw17.AtlasMaps': WHATEVER THE INPUT: true; the input reads as it did. -/
def atlasMapsSpec : ChangeSpec := { name := "atlasMaps", fn := fun _ => fun
  | [d1, d2] => { results := [.lit (.bool true)], args := [d1, d2] }
  | _ => none }
def atlasMapsRow : OpenClaim := { program := "ytodaijlclbngbaagreat", sum := "527db688c3a1bba364044c02bdd16b6565dbb5081a5944bd223d3552c08d1dcc", func := "wayfinder/wayfinderlaw17.AtlasMaps", spec := "atlasMaps", unfollowed := true, recurses := true, plainKeys := false, apart := false }
def AtlasMapsSaid : Prop := atlasMapsRow.holds Tryz.pinned (OpenSpec.ofChange atlasMapsSpec)

/-- ITS FALSE NEIGHBOUR: 'it returns false'. Refute it at one input. -/
def atlasMapsWrong : ChangeSpec := { name := "atlasMaps", fn := fun _ => fun
  | [d1, d2] => { results := [.lit (.bool false)], args := [d1, d2] }
  | _ => none }
def AtlasMapsWrongFalsely : Prop := atlasMapsRow.holds Tryz.pinned (OpenSpec.ofChange atlasMapsWrong)

/-- 'wayfinderlaw17.AtlasJoins': WHATEVER THE INPUT: true; the input reads as it did. -/
def atlasJoinsSpec : ChangeSpec := { name := "atlasJoins", fn := fun _ => fun
  | [d1, d2] => { results := [.lit (.bool true)], args := [d1, d2] }
  | _ => none }
def atlasJoinsRow : OpenClaim := { program := "ytodaijlclbngbaagreat", sum := "527db688c3a1bba364044c02bdd16b6565dbb5081a5944bd223d3552c08d1dcc", func := "wayfinder/wayfinderlaw17.AtlasJoins", spec := "atlasJoins", unfollowed := true, recurses := true, plainKeys := false, apart := false }
def AtlasJoinsSaid : Prop := atlasJoinsRow.holds Tryz.pinned (OpenSpec.ofChange atlasJoinsSpec)

/-- ITS FALSE NEIGHBOUR: 'it returns false'. Refute it at one input. -/
def atlasJoinsWrong : ChangeSpec := { name := "atlasJoins", fn := fun _ => fun
  | [d1, d2] => { results := [.lit (.bool false)], args := [d1, d2] }
  | _ => none }
def AtlasJoinsWrongFalsely : Prop := atlasJoinsRow.holds Tryz.pinned (OpenSpec.ofChange atlasJoinsWrong)

/-- 'wayfinderlaw17.AtlasReplaces': WHATEVER THE INPUT: true; the input reads as it did. -/
def atlasReplacesSpec : ChangeSpec := { name := "atlasReplaces", fn := fun _ => fun
  | [d1, d2, d3] => { results := [.lit (.bool true)], args := [d1, d2, d3] }
  | _ => none }
def atlasReplacesRow : OpenClaim := { program := "ytodaijlclbngbaagreat", sum := "527db688c3a1bba364044c02bdd16b6565dbb5081a5944bd223d3552c08d1dcc", func := "wayfinder/wayfinderlaw17.AtlasReplaces", spec := "atlasReplaces", unfollowed := true, recurses := true, plainKeys := false, apart := false }
def AtlasReplacesSaid : Prop := atlasReplacesRow.holds Tryz.pinned (OpenSpec.ofChange atlasReplacesSpec)

/-- ITS FALSE NEIGHBOUR: 'it returns false'. Refute it at one input. -/
def atlasReplacesWrong : ChangeSpec := { name := "atlasReplaces", fn := fun _ => fun
  | [d1, d2, d3] => { results := [.lit (.bool false)], args := [d1, d2, d3] }
  | _ => none }
def AtlasReplacesWrongFalsely : Prop := atlasReplacesRow.holds Tryz.pinned (OpenSpec.ofChange atlasReplacesWrong)

/-- 'wayfinderlaw17.AtlasSame': WHATEVER THE INPUT: true; the input reads as it did. -/
def atlasSameSpec : ChangeSpec := { name := "atlasSame", fn := fun _ => fun
  | [d1, d2] => { results := [.lit (.bool true)], args := [d1, d2] }
  | _ => none }
def atlasSameRow : OpenClaim := { program := "ytodaijlclbngbaagreat", sum := "527db688c3a1bba364044c02bdd16b6565dbb5081a5944bd223d3552c08d1dcc", func := "wayfinder/wayfinderlaw17.AtlasSame", spec := "atlasSame", unfollowed := true, recurses := true, plainKeys := false, apart := false }
def AtlasSameSaid : Prop := atlasSameRow.holds Tryz.pinned (OpenSpec.ofChange atlasSameSpec)

/-- ITS FALSE NEIGHBOUR: 'it returns false'. Refute it at one input. -/
def atlasSameWrong : ChangeSpec := { name := "atlasSame", fn := fun _ => fun
  | [d1, d2] => { results := [.lit (.bool false)], args := [d1, d2] }
  | _ => none }
def AtlasSameWrongFalsely : Prop := atlasSameRow.holds Tryz.pinned (OpenSpec.ofChange atlasSameWrong)

/- THE SECOND FORM. 'bulk': how many values and letters a reading holds, each counted each time it is reached (what is shared counts as often as it is met; a slice's spare places count too). A statement '..UptoSaid' is the law's where the arguments, and the package variables that the reading takes, are together of bulk at most 1048576: NARROWER than '..Said'. Prove '..Said' where nothing that the law and all that it calls make is longer than what came in: it says more and counts as full. Else prove '..UptoSaid'. A law counts once. -/
mutual
def uptoBulk {H : Type} : DataW H → Nat
  | .lit (.string bytes) => bytes.length + 1
  | .lit _ => 1
  | .nil => 1
  | .ptr d => uptoBulk d + 1
  | .slice elems spare => uptoBulkAll elems + uptoBulkAll spare + 1
  | .agg parts => uptoBulkAll parts + 1
  | .iface _ d => uptoBulk d + 1
  | .map entries => uptoBulkEntries entries + 1
  | .held _ => 1
def uptoBulkAll {H : Type} : List (DataW H) → Nat
  | [] => 0
  | d :: r => uptoBulk d + uptoBulkAll r
def uptoBulkEntries {H : Type} : List (Lit × DataW H) → Nat
  | [] => 0
  | x :: r => uptoBulkEntry x + uptoBulkEntries r
def uptoBulkEntry {H : Type} : Lit × DataW H → Nat
  | (.string bytes, d) => bytes.length + uptoBulk d + 1
  | (_, d) => uptoBulk d + 1
 end
def uptoSmall : (H : Type) → List (DataW H) → Bool := fun _ ds => decide (uptoBulkAll ds ≤ 1048576)
def OpenSpec.upto (s : _root_.Go.ChangeSpec) : _root_.Go.OpenSpec := { _root_.Go.OpenSpec.ofChange s with cond := some uptoSmall }

/-- 'wayfinderlaw17.AtlasKeeps', WHERE WHAT IT READS IS OF BULK AT MOST 1048576: true; the input reads as it did. -/
def atlasKeepsUptoRow : OpenClaim := { program := "ytodaijlclbngbaagreat", sum := "527db688c3a1bba364044c02bdd16b6565dbb5081a5944bd223d3552c08d1dcc", func := "wayfinder/wayfinderlaw17.AtlasKeeps", spec := "atlasKeeps", unfollowed := true, recurses := true, plainKeys := false, apart := false, narrowed := true }
def AtlasKeepsUptoSaid : Prop := atlasKeepsUptoRow.holds Tryz.pinned (OpenSpec.upto atlasKeepsSpec)

/-- 'wayfinderlaw17.AtlasMaps', WHERE WHAT IT READS IS OF BULK AT MOST 1048576: true; the input reads as it did. -/
def atlasMapsUptoRow : OpenClaim := { program := "ytodaijlclbngbaagreat", sum := "527db688c3a1bba364044c02bdd16b6565dbb5081a5944bd223d3552c08d1dcc", func := "wayfinder/wayfinderlaw17.AtlasMaps", spec := "atlasMaps", unfollowed := true, recurses := true, plainKeys := false, apart := false, narrowed := true }
def AtlasMapsUptoSaid : Prop := atlasMapsUptoRow.holds Tryz.pinned (OpenSpec.upto atlasMapsSpec)

/-- 'wayfinderlaw17.AtlasJoins', WHERE WHAT IT READS IS OF BULK AT MOST 1048576: true; the input reads as it did. -/
def atlasJoinsUptoRow : OpenClaim := { program := "ytodaijlclbngbaagreat", sum := "527db688c3a1bba364044c02bdd16b6565dbb5081a5944bd223d3552c08d1dcc", func := "wayfinder/wayfinderlaw17.AtlasJoins", spec := "atlasJoins", unfollowed := true, recurses := true, plainKeys := false, apart := false, narrowed := true }
def AtlasJoinsUptoSaid : Prop := atlasJoinsUptoRow.holds Tryz.pinned (OpenSpec.upto atlasJoinsSpec)

/-- 'wayfinderlaw17.AtlasReplaces', WHERE WHAT IT READS IS OF BULK AT MOST 1048576: true; the input reads as it did. -/
def atlasReplacesUptoRow : OpenClaim := { program := "ytodaijlclbngbaagreat", sum := "527db688c3a1bba364044c02bdd16b6565dbb5081a5944bd223d3552c08d1dcc", func := "wayfinder/wayfinderlaw17.AtlasReplaces", spec := "atlasReplaces", unfollowed := true, recurses := true, plainKeys := false, apart := false, narrowed := true }
def AtlasReplacesUptoSaid : Prop := atlasReplacesUptoRow.holds Tryz.pinned (OpenSpec.upto atlasReplacesSpec)

/-- 'wayfinderlaw17.AtlasSame', WHERE WHAT IT READS IS OF BULK AT MOST 1048576: true; the input reads as it did. -/
def atlasSameUptoRow : OpenClaim := { program := "ytodaijlclbngbaagreat", sum := "527db688c3a1bba364044c02bdd16b6565dbb5081a5944bd223d3552c08d1dcc", func := "wayfinder/wayfinderlaw17.AtlasSame", spec := "atlasSame", unfollowed := true, recurses := true, plainKeys := false, apart := false, narrowed := true }
def AtlasSameUptoSaid : Prop := atlasSameUptoRow.holds Tryz.pinned (OpenSpec.upto atlasSameSpec)

end Rows
end Go.Proofs.YtodaijlclbngbaaGreat
