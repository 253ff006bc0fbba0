/-
  NARROWER THAN 'FOR EVERY INPUT', by the rows' own cells (each row's printed sentence says how): CatalogueAgain: laid · CatalogueShows: laid · CataloguePersons: laid.
  DERIVED. THE GIVEN ROWS OF THIS SEAT. 3 by the template 'for every input the law returns true; each argument reads behind the call as it read before'; 0 by the template 'total and deterministic' (their statements: YthdgnfcbehcplaaDoorTotals.lean).
  GIVEN WITH THE SEED: the statements are not yours to turn. If you find one false, say at which input.
  Laid BY PROGRAM, IN A SANDBOX (cutbox-rows.mjs): the forced cells as the released guide's own fill.sh prints them over the translation f289cc6ae3f0a0c7… (all of the seat's roots in one cut). By AI agents, Wed Nov 11 2026. No macro, syntax, notation, axiom, sorry.
-/
import Derived.Test.YthdgnfcbehcplaaDoorChecked
import GoSem.Claim
import GoSem.ClaimJoined
import GoSem.ClaimMapViews
import Derived.JoinedTies
import Derived.KernelRfl
namespace Go.Proofs.YthdgnfcbehcplaaDoor
/- THE CELL 'sum', in the pinned program and in every row, IS THE sha256 OF THE DUMP (.gsa) THAT YthdgnfcbehcplaaDoorProg.lean LOADS. Nothing in Lean hashes anything: it is a label: what it is worth is what the hold of that sum in a sandbox is worth. -/
noncomputable def Tryd.pinned : Pinned := { name := "ythdgnfcbehcplaadoor", sum := "f289cc6ae3f0a0c73d979003398e7627bb558463fbb3293078e55cc67e67df5c", checked := Tryd.checked }
namespace Rows
def none {H : Type} : Left H := { results := [], args := [] }

/- WHAT THE LISTED PACKAGE-LEVEL VARIABLES READ AS WHEN THE CALL BEGINS. Each datum BY PROGRAM (the guide's laid-datum.mjs) off the statement by which the dump's own 'gosem.cut.vars' lays the variable. In a bare row this is a premise. The card (YthdgnfcbehcplaaDoorCards.lean) ties it to the program's text. -/
def laid_seismonet_catalogue_follows {H : Type} : DataW H := .agg [.agg [.lit (.bool false), .lit (.bool false), .lit (.bool false), .lit (.bool false), .lit (.bool false), .lit (.bool false), .lit (.bool false)], .agg [.lit (.bool false), .lit (.bool true), .lit (.bool true), .lit (.bool false), .lit (.bool false), .lit (.bool false), .lit (.bool true)], .agg [.lit (.bool false), .lit (.bool true), .lit (.bool false), .lit (.bool false), .lit (.bool false), .lit (.bool false), .lit (.bool true)], .agg [.lit (.bool false), .lit (.bool true), .lit (.bool true), .lit (.bool true), .lit (.bool true), .lit (.bool true), .lit (.bool true)], .agg [.lit (.bool false), .lit (.bool true), .lit (.bool true), .lit (.bool true), .lit (.bool true), .lit (.bool true), .lit (.bool true)], .agg [.lit (.bool false), .lit (.bool true), .lit (.bool true), .lit (.bool true), .lit (.bool true), .lit (.bool true), .lit (.bool true)], .agg [.lit (.bool false), .lit (.bool false), .lit (.bool false), .lit (.bool true), .lit (.bool true), .lit (.bool true), .lit (.bool false)]]
def laid_seismonet_catalogue_computed {H : Type} : DataW H := .agg [.lit (.bool false), .lit (.bool true), .lit (.bool true), .lit (.bool false), .lit (.bool false), .lit (.bool false), .lit (.bool false)]
def laid_seismonet_catalogue_shown {H : Type} : DataW H := .agg [.lit (.bool false), .lit (.bool true), .lit (.bool false), .lit (.bool true), .lit (.bool false), .lit (.bool false), .lit (.bool true)]
def laid_seismonet_catalogue_kept {H : Type} : DataW H := .agg [.lit (.bool false), .lit (.bool false), .lit (.bool true), .lit (.bool false), .lit (.bool true), .lit (.bool true), .lit (.bool true)]

/-- 'seismonetlaw38.CatalogueAgain': WHATEVER THE INPUT: true; the input reads as it did. -/
def catalogueAgainSpec : ChangeSpec := { name := "catalogueAgain", fn := fun _ => fun
  | [d] => { results := [.lit (.bool true)], args := [d] }
  | _ => none }
def catalogueAgainRow : OpenClaim := { program := "ythdgnfcbehcplaadoor", sum := "f289cc6ae3f0a0c73d979003398e7627bb558463fbb3293078e55cc67e67df5c", func := "seismonet/seismonetlaw38.CatalogueAgain", spec := "catalogueAgain", unfollowed := true, recurses := true, named := ["seismonet/catalogue.shown", "seismonet/catalogue.follows", "seismonet/catalogue.kept", "seismonet/catalogue.computed"], plainKeys := false, apart := false, laid := [("seismonet/catalogue.follows", laid_seismonet_catalogue_follows), ("seismonet/catalogue.computed", laid_seismonet_catalogue_computed), ("seismonet/catalogue.shown", laid_seismonet_catalogue_shown), ("seismonet/catalogue.kept", laid_seismonet_catalogue_kept)] }
def CatalogueAgainSaid : Prop := catalogueAgainRow.holds Tryd.pinned (OpenSpec.ofChange catalogueAgainSpec)

/-- ITS FALSE NEIGHBOUR: 'it returns false'. Refute it at one input. -/
def catalogueAgainWrong : ChangeSpec := { name := "catalogueAgain", fn := fun _ => fun
  | [d] => { results := [.lit (.bool false)], args := [d] }
  | _ => none }
def CatalogueAgainWrongFalsely : Prop := catalogueAgainRow.holds Tryd.pinned (OpenSpec.ofChange catalogueAgainWrong)

/-- 'seismonetlaw38.CatalogueShows': WHATEVER THE INPUT: true; the input reads as it did. -/
def catalogueShowsSpec : ChangeSpec := { name := "catalogueShows", fn := fun _ => fun
  | [d] => { results := [.lit (.bool true)], args := [d] }
  | _ => none }
def catalogueShowsRow : OpenClaim := { program := "ythdgnfcbehcplaadoor", sum := "f289cc6ae3f0a0c73d979003398e7627bb558463fbb3293078e55cc67e67df5c", func := "seismonet/seismonetlaw38.CatalogueShows", spec := "catalogueShows", unfollowed := true, recurses := true, named := ["seismonet/catalogue.shown", "seismonet/catalogue.follows", "seismonet/catalogue.kept", "seismonet/catalogue.computed"], plainKeys := false, apart := false, laid := [("seismonet/catalogue.follows", laid_seismonet_catalogue_follows), ("seismonet/catalogue.computed", laid_seismonet_catalogue_computed), ("seismonet/catalogue.shown", laid_seismonet_catalogue_shown), ("seismonet/catalogue.kept", laid_seismonet_catalogue_kept)] }
def CatalogueShowsSaid : Prop := catalogueShowsRow.holds Tryd.pinned (OpenSpec.ofChange catalogueShowsSpec)

/-- ITS FALSE NEIGHBOUR: 'it returns false'. Refute it at one input. -/
def catalogueShowsWrong : ChangeSpec := { name := "catalogueShows", fn := fun _ => fun
  | [d] => { results := [.lit (.bool false)], args := [d] }
  | _ => none }
def CatalogueShowsWrongFalsely : Prop := catalogueShowsRow.holds Tryd.pinned (OpenSpec.ofChange catalogueShowsWrong)

/-- 'seismonetlaw38.CataloguePersons': WHATEVER THE INPUT: true; the input reads as it did. -/
def cataloguePersonsSpec : ChangeSpec := { name := "cataloguePersons", fn := fun _ => fun
  | [d1, d2] => { results := [.lit (.bool true)], args := [d1, d2] }
  | _ => none }
def cataloguePersonsRow : OpenClaim := { program := "ythdgnfcbehcplaadoor", sum := "f289cc6ae3f0a0c73d979003398e7627bb558463fbb3293078e55cc67e67df5c", func := "seismonet/seismonetlaw38.CataloguePersons", spec := "cataloguePersons", unfollowed := true, recurses := true, named := ["seismonet/catalogue.shown", "seismonet/catalogue.follows", "seismonet/catalogue.kept", "seismonet/catalogue.computed"], plainKeys := false, apart := false, laid := [("seismonet/catalogue.follows", laid_seismonet_catalogue_follows), ("seismonet/catalogue.computed", laid_seismonet_catalogue_computed), ("seismonet/catalogue.shown", laid_seismonet_catalogue_shown), ("seismonet/catalogue.kept", laid_seismonet_catalogue_kept)] }
def CataloguePersonsSaid : Prop := cataloguePersonsRow.holds Tryd.pinned (OpenSpec.ofChange cataloguePersonsSpec)

/-- ITS FALSE NEIGHBOUR: 'it returns false'. Refute it at one input. -/
def cataloguePersonsWrong : ChangeSpec := { name := "cataloguePersons", fn := fun _ => fun
  | [d1, d2] => { results := [.lit (.bool false)], args := [d1, d2] }
  | _ => none }
def CataloguePersonsWrongFalsely : Prop := cataloguePersonsRow.holds Tryd.pinned (OpenSpec.ofChange cataloguePersonsWrong)

/- THE SECOND FORM. 'bulk': how many values and letters a reading holds, each counted each time it is reached (what is shared counts as often as it is met; a slice's spare places count too). A statement '..UptoSaid' is the law's where the arguments, and the package variables that the reading takes, are together of bulk at most 1048576: NARROWER than '..Said'. Prove '..Said' where nothing that the law and all that it calls make is longer than what came in: it says more and counts as full. Else prove '..UptoSaid'. A law counts once. -/
mutual
def uptoBulk {H : Type} : DataW H → Nat
  | .lit (.string bytes) => bytes.length + 1
  | .lit _ => 1
  | .nil => 1
  | .ptr d => uptoBulk d + 1
  | .slice elems spare => uptoBulkAll elems + uptoBulkAll spare + 1
  | .agg parts => uptoBulkAll parts + 1
  | .iface _ d => uptoBulk d + 1
  | .map entries => uptoBulkEntries entries + 1
  | .held _ => 1
def uptoBulkAll {H : Type} : List (DataW H) → Nat
  | [] => 0
  | d :: r => uptoBulk d + uptoBulkAll r
def uptoBulkEntries {H : Type} : List (Lit × DataW H) → Nat
  | [] => 0
  | x :: r => uptoBulkEntry x + uptoBulkEntries r
def uptoBulkEntry {H : Type} : Lit × DataW H → Nat
  | (.string bytes, d) => bytes.length + uptoBulk d + 1
  | (_, d) => uptoBulk d + 1
 end
def uptoSmall : (H : Type) → List (DataW H) → Bool := fun _ ds => decide (uptoBulkAll ds ≤ 1048576)
def OpenSpec.upto (s : _root_.Go.ChangeSpec) : _root_.Go.OpenSpec := { _root_.Go.OpenSpec.ofChange s with cond := some uptoSmall }

/-- 'seismonetlaw38.CatalogueAgain', WHERE WHAT IT READS IS OF BULK AT MOST 1048576: true; the input reads as it did. -/
def catalogueAgainUptoRow : OpenClaim := { program := "ythdgnfcbehcplaadoor", sum := "f289cc6ae3f0a0c73d979003398e7627bb558463fbb3293078e55cc67e67df5c", func := "seismonet/seismonetlaw38.CatalogueAgain", spec := "catalogueAgain", unfollowed := true, recurses := true, named := ["seismonet/catalogue.shown", "seismonet/catalogue.follows", "seismonet/catalogue.kept", "seismonet/catalogue.computed"], plainKeys := false, apart := false, laid := [("seismonet/catalogue.follows", laid_seismonet_catalogue_follows), ("seismonet/catalogue.computed", laid_seismonet_catalogue_computed), ("seismonet/catalogue.shown", laid_seismonet_catalogue_shown), ("seismonet/catalogue.kept", laid_seismonet_catalogue_kept)], narrowed := true }
def CatalogueAgainUptoSaid : Prop := catalogueAgainUptoRow.holds Tryd.pinned (OpenSpec.upto catalogueAgainSpec)

/-- 'seismonetlaw38.CatalogueShows', WHERE WHAT IT READS IS OF BULK AT MOST 1048576: true; the input reads as it did. -/
def catalogueShowsUptoRow : OpenClaim := { program := "ythdgnfcbehcplaadoor", sum := "f289cc6ae3f0a0c73d979003398e7627bb558463fbb3293078e55cc67e67df5c", func := "seismonet/seismonetlaw38.CatalogueShows", spec := "catalogueShows", unfollowed := true, recurses := true, named := ["seismonet/catalogue.shown", "seismonet/catalogue.follows", "seismonet/catalogue.kept", "seismonet/catalogue.computed"], plainKeys := false, apart := false, laid := [("seismonet/catalogue.follows", laid_seismonet_catalogue_follows), ("seismonet/catalogue.computed", laid_seismonet_catalogue_computed), ("seismonet/catalogue.shown", laid_seismonet_catalogue_shown), ("seismonet/catalogue.kept", laid_seismonet_catalogue_kept)], narrowed := true }
def CatalogueShowsUptoSaid : Prop := catalogueShowsUptoRow.holds Tryd.pinned (OpenSpec.upto catalogueShowsSpec)

/-- 'seismonetlaw38.CataloguePersons', WHERE WHAT IT READS IS OF BULK AT MOST 1048576: true; the input reads as it did. -/
def cataloguePersonsUptoRow : OpenClaim := { program := "ythdgnfcbehcplaadoor", sum := "f289cc6ae3f0a0c73d979003398e7627bb558463fbb3293078e55cc67e67df5c", func := "seismonet/seismonetlaw38.CataloguePersons", spec := "cataloguePersons", unfollowed := true, recurses := true, named := ["seismonet/catalogue.shown", "seismonet/catalogue.follows", "seismonet/catalogue.kept", "seismonet/catalogue.computed"], plainKeys := false, apart := false, laid := [("seismonet/catalogue.follows", laid_seismonet_catalogue_follows), ("seismonet/catalogue.computed", laid_seismonet_catalogue_computed), ("seismonet/catalogue.shown", laid_seismonet_catalogue_shown), ("seismonet/catalogue.kept", laid_seismonet_catalogue_kept)], narrowed := true }
def CataloguePersonsUptoSaid : Prop := cataloguePersonsUptoRow.holds Tryd.pinned (OpenSpec.upto cataloguePersonsSpec)

end Rows
end Go.Proofs.YthdgnfcbehcplaaDoor
