/-
  No cell of these rows narrows 'for every input' (looked for: loops, veiled, ifaces, maps, wideKeys, modest, calm, conditions, laid).
  DERIVED. THE GIVEN ROWS OF THIS SEAT. 6 by the template 'for every input the law returns true; each argument reads behind the call as it read before'; 0 by the template 'total and deterministic' (their statements: YtjbigbaipmiihaaGreatTotals.lean).
  GIVEN WITH THE SEED: the statements are not yours to turn. If you find one false, say at which input.
  Laid BY PROGRAM, IN A SANDBOX (cutbox-rows.mjs): the forced cells as the released guide's own fill.sh prints them over the translation 20f1a48a82d1bab7… (all of the seat's roots in one cut). By AI agents, Wed Nov 11 2026. No macro, syntax, notation, axiom, sorry.
-/
import Derived.Test.YtjbigbaipmiihaaGreatChecked
import GoSem.Claim
import GoSem.ClaimJoined
import GoSem.ClaimMapViews
import Derived.JoinedTies
import Derived.KernelRfl
namespace Go.Proofs.YtjbigbaipmiihaaGreat
/- THE CELL 'sum', in the pinned program and in every row, IS THE sha256 OF THE DUMP (.gsa) THAT YtjbigbaipmiihaaGreatProg.lean LOADS. Nothing in Lean hashes anything: it is a label: what it is worth is what the hold of that sum in a sandbox is worth. -/
noncomputable def Tryz.pinned : Pinned := { name := "ytjbigbaipmiihaagreat", sum := "20f1a48a82d1bab727e981c29d4e0391125fb661ad73cae52f06934a9d51073f", checked := Tryz.checked }
namespace Rows
def none {H : Type} : Left H := { results := [], args := [] }

/-- 'metronomelaw12.SemMeans': WHATEVER THE INPUT: true; the input reads as it did. -/
def semMeansSpec : ChangeSpec := { name := "semMeans", fn := fun _ => fun
  | [d1, d2] => { results := [.lit (.bool true)], args := [d1, d2] }
  | _ => none }
def semMeansRow : OpenClaim := { program := "ytjbigbaipmiihaagreat", sum := "20f1a48a82d1bab727e981c29d4e0391125fb661ad73cae52f06934a9d51073f", func := "metronome/metronomelaw12.SemMeans", spec := "semMeans", unfollowed := true, recurses := true, apart := false }
def SemMeansSaid : Prop := semMeansRow.holds Tryz.pinned (OpenSpec.ofChange semMeansSpec)

/-- ITS FALSE NEIGHBOUR: 'it returns false'. Refute it at one input. -/
def semMeansWrong : ChangeSpec := { name := "semMeans", fn := fun _ => fun
  | [d1, d2] => { results := [.lit (.bool false)], args := [d1, d2] }
  | _ => none }
def SemMeansWrongFalsely : Prop := semMeansRow.holds Tryz.pinned (OpenSpec.ofChange semMeansWrong)

/-- 'metronomelaw12.SemInputs': WHATEVER THE INPUT: true; the input reads as it did. -/
def semInputsSpec : ChangeSpec := { name := "semInputs", fn := fun _ => fun
  | [d1, d2, d3] => { results := [.lit (.bool true)], args := [d1, d2, d3] }
  | _ => none }
def semInputsRow : OpenClaim := { program := "ytjbigbaipmiihaagreat", sum := "20f1a48a82d1bab727e981c29d4e0391125fb661ad73cae52f06934a9d51073f", func := "metronome/metronomelaw12.SemInputs", spec := "semInputs", unfollowed := true, recurses := true, apart := false }
def SemInputsSaid : Prop := semInputsRow.holds Tryz.pinned (OpenSpec.ofChange semInputsSpec)

/-- ITS FALSE NEIGHBOUR: 'it returns false'. Refute it at one input. -/
def semInputsWrong : ChangeSpec := { name := "semInputs", fn := fun _ => fun
  | [d1, d2, d3] => { results := [.lit (.bool false)], args := [d1, d2, d3] }
  | _ => none }
def SemInputsWrongFalsely : Prop := semInputsRow.holds Tryz.pinned (OpenSpec.ofChange semInputsWrong)

/-- 'metronomelaw12.SemCalls': WHATEVER THE INPUT: true; the input reads as it did. -/
def semCallsSpec : ChangeSpec := { name := "semCalls", fn := fun _ => fun
  | [d1, d2, d3] => { results := [.lit (.bool true)], args := [d1, d2, d3] }
  | _ => none }
def semCallsRow : OpenClaim := { program := "ytjbigbaipmiihaagreat", sum := "20f1a48a82d1bab727e981c29d4e0391125fb661ad73cae52f06934a9d51073f", func := "metronome/metronomelaw12.SemCalls", spec := "semCalls", unfollowed := true, recurses := true, apart := false }
def SemCallsSaid : Prop := semCallsRow.holds Tryz.pinned (OpenSpec.ofChange semCallsSpec)

/-- ITS FALSE NEIGHBOUR: 'it returns false'. Refute it at one input. -/
def semCallsWrong : ChangeSpec := { name := "semCalls", fn := fun _ => fun
  | [d1, d2, d3] => { results := [.lit (.bool false)], args := [d1, d2, d3] }
  | _ => none }
def SemCallsWrongFalsely : Prop := semCallsRow.holds Tryz.pinned (OpenSpec.ofChange semCallsWrong)

/-- 'metronomelaw12.SemTwins': WHATEVER THE INPUT: true; the input reads as it did. -/
def semTwinsSpec : ChangeSpec := { name := "semTwins", fn := fun _ => fun
  | [d1, d2, d3] => { results := [.lit (.bool true)], args := [d1, d2, d3] }
  | _ => none }
def semTwinsRow : OpenClaim := { program := "ytjbigbaipmiihaagreat", sum := "20f1a48a82d1bab727e981c29d4e0391125fb661ad73cae52f06934a9d51073f", func := "metronome/metronomelaw12.SemTwins", spec := "semTwins", unfollowed := true, recurses := true, apart := false }
def SemTwinsSaid : Prop := semTwinsRow.holds Tryz.pinned (OpenSpec.ofChange semTwinsSpec)

/-- ITS FALSE NEIGHBOUR: 'it returns false'. Refute it at one input. -/
def semTwinsWrong : ChangeSpec := { name := "semTwins", fn := fun _ => fun
  | [d1, d2, d3] => { results := [.lit (.bool false)], args := [d1, d2, d3] }
  | _ => none }
def SemTwinsWrongFalsely : Prop := semTwinsRow.holds Tryz.pinned (OpenSpec.ofChange semTwinsWrong)

/-- 'metronomelaw12.SemOrder': WHATEVER THE INPUT: true; the input reads as it did. -/
def semOrderSpec : ChangeSpec := { name := "semOrder", fn := fun _ => fun
  | [d1, d2, d3] => { results := [.lit (.bool true)], args := [d1, d2, d3] }
  | _ => none }
def semOrderRow : OpenClaim := { program := "ytjbigbaipmiihaagreat", sum := "20f1a48a82d1bab727e981c29d4e0391125fb661ad73cae52f06934a9d51073f", func := "metronome/metronomelaw12.SemOrder", spec := "semOrder", unfollowed := true, recurses := true, apart := false }
def SemOrderSaid : Prop := semOrderRow.holds Tryz.pinned (OpenSpec.ofChange semOrderSpec)

/-- ITS FALSE NEIGHBOUR: 'it returns false'. Refute it at one input. -/
def semOrderWrong : ChangeSpec := { name := "semOrder", fn := fun _ => fun
  | [d1, d2, d3] => { results := [.lit (.bool false)], args := [d1, d2, d3] }
  | _ => none }
def SemOrderWrongFalsely : Prop := semOrderRow.holds Tryz.pinned (OpenSpec.ofChange semOrderWrong)

/-- 'metronomelaw12.SemResets': WHATEVER THE INPUT: true; the input reads as it did. -/
def semResetsSpec : ChangeSpec := { name := "semResets", fn := fun _ => fun
  | [d1, d2, d3] => { results := [.lit (.bool true)], args := [d1, d2, d3] }
  | _ => none }
def semResetsRow : OpenClaim := { program := "ytjbigbaipmiihaagreat", sum := "20f1a48a82d1bab727e981c29d4e0391125fb661ad73cae52f06934a9d51073f", func := "metronome/metronomelaw12.SemResets", spec := "semResets", unfollowed := true, recurses := true, apart := false }
def SemResetsSaid : Prop := semResetsRow.holds Tryz.pinned (OpenSpec.ofChange semResetsSpec)

/-- ITS FALSE NEIGHBOUR: 'it returns false'. Refute it at one input. -/
def semResetsWrong : ChangeSpec := { name := "semResets", fn := fun _ => fun
  | [d1, d2, d3] => { results := [.lit (.bool false)], args := [d1, d2, d3] }
  | _ => none }
def SemResetsWrongFalsely : Prop := semResetsRow.holds Tryz.pinned (OpenSpec.ofChange semResetsWrong)

/- THE SECOND FORM. 'bulk': how many values and letters a reading holds, each counted each time it is reached (what is shared counts as often as it is met; a slice's spare places count too). A statement '..UptoSaid' is the law's where the arguments, and the package variables that the reading takes, are together of bulk at most 1048576: NARROWER than '..Said'. Prove '..Said' where nothing that the law and all that it calls make is longer than what came in: it says more and counts as full. Else prove '..UptoSaid'. A law counts once. -/
mutual
def uptoBulk {H : Type} : DataW H → Nat
  | .lit (.string bytes) => bytes.length + 1
  | .lit _ => 1
  | .nil => 1
  | .ptr d => uptoBulk d + 1
  | .slice elems spare => uptoBulkAll elems + uptoBulkAll spare + 1
  | .agg parts => uptoBulkAll parts + 1
  | .iface _ d => uptoBulk d + 1
  | .map entries => uptoBulkEntries entries + 1
  | .held _ => 1
def uptoBulkAll {H : Type} : List (DataW H) → Nat
  | [] => 0
  | d :: r => uptoBulk d + uptoBulkAll r
def uptoBulkEntries {H : Type} : List (Lit × DataW H) → Nat
  | [] => 0
  | x :: r => uptoBulkEntry x + uptoBulkEntries r
def uptoBulkEntry {H : Type} : Lit × DataW H → Nat
  | (.string bytes, d) => bytes.length + uptoBulk d + 1
  | (_, d) => uptoBulk d + 1
 end
def uptoSmall : (H : Type) → List (DataW H) → Bool := fun _ ds => decide (uptoBulkAll ds ≤ 1048576)
def OpenSpec.upto (s : _root_.Go.ChangeSpec) : _root_.Go.OpenSpec := { _root_.Go.OpenSpec.ofChange s with cond := some uptoSmall }

/-- 'metronomelaw12.SemMeans', WHERE WHAT IT READS IS OF BULK AT MOST 1048576: true; the input reads as it did. -/
def semMeansUptoRow : OpenClaim := { program := "ytjbigbaipmiihaagreat", sum := "20f1a48a82d1bab727e981c29d4e0391125fb661ad73cae52f06934a9d51073f", func := "metronome/metronomelaw12.SemMeans", spec := "semMeans", unfollowed := true, recurses := true, apart := false, narrowed := true }
def SemMeansUptoSaid : Prop := semMeansUptoRow.holds Tryz.pinned (OpenSpec.upto semMeansSpec)

/-- 'metronomelaw12.SemInputs', WHERE WHAT IT READS IS OF BULK AT MOST 1048576: true; the input reads as it did. -/
def semInputsUptoRow : OpenClaim := { program := "ytjbigbaipmiihaagreat", sum := "20f1a48a82d1bab727e981c29d4e0391125fb661ad73cae52f06934a9d51073f", func := "metronome/metronomelaw12.SemInputs", spec := "semInputs", unfollowed := true, recurses := true, apart := false, narrowed := true }
def SemInputsUptoSaid : Prop := semInputsUptoRow.holds Tryz.pinned (OpenSpec.upto semInputsSpec)

/-- 'metronomelaw12.SemCalls', WHERE WHAT IT READS IS OF BULK AT MOST 1048576: true; the input reads as it did. -/
def semCallsUptoRow : OpenClaim := { program := "ytjbigbaipmiihaagreat", sum := "20f1a48a82d1bab727e981c29d4e0391125fb661ad73cae52f06934a9d51073f", func := "metronome/metronomelaw12.SemCalls", spec := "semCalls", unfollowed := true, recurses := true, apart := false, narrowed := true }
def SemCallsUptoSaid : Prop := semCallsUptoRow.holds Tryz.pinned (OpenSpec.upto semCallsSpec)

/-- 'metronomelaw12.SemTwins', WHERE WHAT IT READS IS OF BULK AT MOST 1048576: true; the input reads as it did. -/
def semTwinsUptoRow : OpenClaim := { program := "ytjbigbaipmiihaagreat", sum := "20f1a48a82d1bab727e981c29d4e0391125fb661ad73cae52f06934a9d51073f", func := "metronome/metronomelaw12.SemTwins", spec := "semTwins", unfollowed := true, recurses := true, apart := false, narrowed := true }
def SemTwinsUptoSaid : Prop := semTwinsUptoRow.holds Tryz.pinned (OpenSpec.upto semTwinsSpec)

/-- 'metronomelaw12.SemOrder', WHERE WHAT IT READS IS OF BULK AT MOST 1048576: true; the input reads as it did. -/
def semOrderUptoRow : OpenClaim := { program := "ytjbigbaipmiihaagreat", sum := "20f1a48a82d1bab727e981c29d4e0391125fb661ad73cae52f06934a9d51073f", func := "metronome/metronomelaw12.SemOrder", spec := "semOrder", unfollowed := true, recurses := true, apart := false, narrowed := true }
def SemOrderUptoSaid : Prop := semOrderUptoRow.holds Tryz.pinned (OpenSpec.upto semOrderSpec)

/-- 'metronomelaw12.SemResets', WHERE WHAT IT READS IS OF BULK AT MOST 1048576: true; the input reads as it did. -/
def semResetsUptoRow : OpenClaim := { program := "ytjbigbaipmiihaagreat", sum := "20f1a48a82d1bab727e981c29d4e0391125fb661ad73cae52f06934a9d51073f", func := "metronome/metronomelaw12.SemResets", spec := "semResets", unfollowed := true, recurses := true, apart := false, narrowed := true }
def SemResetsUptoSaid : Prop := semResetsUptoRow.holds Tryz.pinned (OpenSpec.upto semResetsSpec)

end Rows
end Go.Proofs.YtjbigbaipmiihaaGreat
