/-
  NARROWER THAN 'FOR EVERY INPUT', by the rows' own cells (each row's printed sentence says how): CatalogueActs: laid · CatalogueKept: laid · CataloguePublishes: laid.
  DERIVED. THE GIVEN ROWS OF THIS SEAT. 3 by the template 'for every input the law returns true; each argument reads behind the call as it read before'; 0 by the template 'total and deterministic' (their statements: YthdgnfcbehcplaaGreatDoorTotals.lean).
  GIVEN WITH THE SEED: the statements are not yours to turn. If you find one false, say at which input.
  Laid BY PROGRAM, IN A SANDBOX (cutbox-rows.mjs): the forced cells as the released guide's own fill.sh prints them over the translation 80abdeb538e531fd… (all of the seat's roots in one cut). By AI agents, Wed Nov 11 2026. No macro, syntax, notation, axiom, sorry.
-/
import Derived.Test.YthdgnfcbehcplaaGreatDoorChecked
import GoSem.Claim
import GoSem.ClaimJoined
import GoSem.ClaimMapViews
import Derived.JoinedTies
import Derived.KernelRfl
namespace Go.Proofs.YthdgnfcbehcplaaGreatDoor
/- THE CELL 'sum', in the pinned program and in every row, IS THE sha256 OF THE DUMP (.gsa) THAT YthdgnfcbehcplaaGreatDoorProg.lean LOADS. Nothing in Lean hashes anything: it is a label: what it is worth is what the hold of that sum in a sandbox is worth. -/
noncomputable def Tryz.pinned : Pinned := { name := "ythdgnfcbehcplaagreatdoor", sum := "80abdeb538e531fd5eed45e76aca58f1fffe17da371084d01a0e982936b7fccd", checked := Tryz.checked }
namespace Rows
def none {H : Type} : Left H := { results := [], args := [] }

/- WHAT THE LISTED PACKAGE-LEVEL VARIABLES READ AS WHEN THE CALL BEGINS. Each datum BY PROGRAM (the guide's laid-datum.mjs) off the statement by which the dump's own 'gosem.cut.vars' lays the variable. In a bare row this is a premise. The card (YthdgnfcbehcplaaGreatDoorCards.lean) ties it to the program's text. -/
def laid_seismonet_catalogue_follows {H : Type} : DataW H := .agg [.agg [.lit (.bool false), .lit (.bool false), .lit (.bool false), .lit (.bool false), .lit (.bool false), .lit (.bool false), .lit (.bool false)], .agg [.lit (.bool false), .lit (.bool true), .lit (.bool true), .lit (.bool false), .lit (.bool false), .lit (.bool false), .lit (.bool true)], .agg [.lit (.bool false), .lit (.bool true), .lit (.bool false), .lit (.bool false), .lit (.bool false), .lit (.bool false), .lit (.bool true)], .agg [.lit (.bool false), .lit (.bool true), .lit (.bool true), .lit (.bool true), .lit (.bool true), .lit (.bool true), .lit (.bool true)], .agg [.lit (.bool false), .lit (.bool true), .lit (.bool true), .lit (.bool true), .lit (.bool true), .lit (.bool true), .lit (.bool true)], .agg [.lit (.bool false), .lit (.bool true), .lit (.bool true), .lit (.bool true), .lit (.bool true), .lit (.bool true), .lit (.bool true)], .agg [.lit (.bool false), .lit (.bool false), .lit (.bool false), .lit (.bool true), .lit (.bool true), .lit (.bool true), .lit (.bool false)]]
def laid_seismonet_catalogue_computed {H : Type} : DataW H := .agg [.lit (.bool false), .lit (.bool true), .lit (.bool true), .lit (.bool false), .lit (.bool false), .lit (.bool false), .lit (.bool false)]
def laid_seismonet_catalogue_shown {H : Type} : DataW H := .agg [.lit (.bool false), .lit (.bool true), .lit (.bool false), .lit (.bool true), .lit (.bool false), .lit (.bool false), .lit (.bool true)]
def laid_seismonet_catalogue_kept {H : Type} : DataW H := .agg [.lit (.bool false), .lit (.bool false), .lit (.bool true), .lit (.bool false), .lit (.bool true), .lit (.bool true), .lit (.bool true)]

/-- 'seismonetlaw38.CatalogueActs': WHATEVER THE INPUT: true; the input reads as it did. -/
def catalogueActsSpec : ChangeSpec := { name := "catalogueActs", fn := fun _ => fun
  | [d1, d2, d3, d4, d5, d6, d7] => { results := [.lit (.bool true)], args := [d1, d2, d3, d4, d5, d6, d7] }
  | _ => none }
def catalogueActsRow : OpenClaim := { program := "ythdgnfcbehcplaagreatdoor", sum := "80abdeb538e531fd5eed45e76aca58f1fffe17da371084d01a0e982936b7fccd", func := "seismonet/seismonetlaw38.CatalogueActs", spec := "catalogueActs", unfollowed := true, recurses := true, named := ["seismonet/catalogue.shown", "seismonet/catalogue.follows", "seismonet/catalogue.kept", "seismonet/catalogue.computed"], plainKeys := false, apart := false, laid := [("seismonet/catalogue.follows", laid_seismonet_catalogue_follows), ("seismonet/catalogue.computed", laid_seismonet_catalogue_computed), ("seismonet/catalogue.shown", laid_seismonet_catalogue_shown), ("seismonet/catalogue.kept", laid_seismonet_catalogue_kept)] }
def CatalogueActsSaid : Prop := catalogueActsRow.holds Tryz.pinned (OpenSpec.ofChange catalogueActsSpec)

/-- ITS FALSE NEIGHBOUR: 'it returns false'. Refute it at one input. -/
def catalogueActsWrong : ChangeSpec := { name := "catalogueActs", fn := fun _ => fun
  | [d1, d2, d3, d4, d5, d6, d7] => { results := [.lit (.bool false)], args := [d1, d2, d3, d4, d5, d6, d7] }
  | _ => none }
def CatalogueActsWrongFalsely : Prop := catalogueActsRow.holds Tryz.pinned (OpenSpec.ofChange catalogueActsWrong)

/-- 'seismonetlaw38.CatalogueKept': WHATEVER THE INPUT: true; the input reads as it did. -/
def catalogueKeptSpec : ChangeSpec := { name := "catalogueKept", fn := fun _ => fun
  | [d] => { results := [.lit (.bool true)], args := [d] }
  | _ => none }
def catalogueKeptRow : OpenClaim := { program := "ythdgnfcbehcplaagreatdoor", sum := "80abdeb538e531fd5eed45e76aca58f1fffe17da371084d01a0e982936b7fccd", func := "seismonet/seismonetlaw38.CatalogueKept", spec := "catalogueKept", unfollowed := true, recurses := true, named := ["seismonet/catalogue.kept", "seismonet/catalogue.follows", "seismonet/catalogue.computed", "seismonet/catalogue.shown"], plainKeys := false, apart := false, laid := [("seismonet/catalogue.follows", laid_seismonet_catalogue_follows), ("seismonet/catalogue.computed", laid_seismonet_catalogue_computed), ("seismonet/catalogue.shown", laid_seismonet_catalogue_shown), ("seismonet/catalogue.kept", laid_seismonet_catalogue_kept)] }
def CatalogueKeptSaid : Prop := catalogueKeptRow.holds Tryz.pinned (OpenSpec.ofChange catalogueKeptSpec)

/-- ITS FALSE NEIGHBOUR: 'it returns false'. Refute it at one input. -/
def catalogueKeptWrong : ChangeSpec := { name := "catalogueKept", fn := fun _ => fun
  | [d] => { results := [.lit (.bool false)], args := [d] }
  | _ => none }
def CatalogueKeptWrongFalsely : Prop := catalogueKeptRow.holds Tryz.pinned (OpenSpec.ofChange catalogueKeptWrong)

/-- 'seismonetlaw38.CataloguePublishes': WHATEVER THE INPUT: true; the input reads as it did. -/
def cataloguePublishesSpec : ChangeSpec := { name := "cataloguePublishes", fn := fun _ => fun
  | [d1, d2, d3, d4] => { results := [.lit (.bool true)], args := [d1, d2, d3, d4] }
  | _ => none }
def cataloguePublishesRow : OpenClaim := { program := "ythdgnfcbehcplaagreatdoor", sum := "80abdeb538e531fd5eed45e76aca58f1fffe17da371084d01a0e982936b7fccd", func := "seismonet/seismonetlaw38.CataloguePublishes", spec := "cataloguePublishes", unfollowed := true, recurses := true, named := ["seismonet/catalogue.shown", "seismonet/catalogue.follows", "seismonet/catalogue.kept", "seismonet/catalogue.computed"], plainKeys := false, apart := false, laid := [("seismonet/catalogue.follows", laid_seismonet_catalogue_follows), ("seismonet/catalogue.computed", laid_seismonet_catalogue_computed), ("seismonet/catalogue.shown", laid_seismonet_catalogue_shown), ("seismonet/catalogue.kept", laid_seismonet_catalogue_kept)] }
def CataloguePublishesSaid : Prop := cataloguePublishesRow.holds Tryz.pinned (OpenSpec.ofChange cataloguePublishesSpec)

/-- ITS FALSE NEIGHBOUR: 'it returns false'. Refute it at one input. -/
def cataloguePublishesWrong : ChangeSpec := { name := "cataloguePublishes", fn := fun _ => fun
  | [d1, d2, d3, d4] => { results := [.lit (.bool false)], args := [d1, d2, d3, d4] }
  | _ => none }
def CataloguePublishesWrongFalsely : Prop := cataloguePublishesRow.holds Tryz.pinned (OpenSpec.ofChange cataloguePublishesWrong)

/- THE SECOND FORM. 'bulk': how many values and letters a reading holds, each counted each time it is reached (what is shared counts as often as it is met; a slice's spare places count too). A statement '..UptoSaid' is the law's where the arguments, and the package variables that the reading takes, are together of bulk at most 1048576: NARROWER than '..Said'. Prove '..Said' where nothing that the law and all that it calls make is longer than what came in: it says more and counts as full. Else prove '..UptoSaid'. A law counts once. -/
mutual
def uptoBulk {H : Type} : DataW H → Nat
  | .lit (.string bytes) => bytes.length + 1
  | .lit _ => 1
  | .nil => 1
  | .ptr d => uptoBulk d + 1
  | .slice elems spare => uptoBulkAll elems + uptoBulkAll spare + 1
  | .agg parts => uptoBulkAll parts + 1
  | .iface _ d => uptoBulk d + 1
  | .map entries => uptoBulkEntries entries + 1
  | .held _ => 1
def uptoBulkAll {H : Type} : List (DataW H) → Nat
  | [] => 0
  | d :: r => uptoBulk d + uptoBulkAll r
def uptoBulkEntries {H : Type} : List (Lit × DataW H) → Nat
  | [] => 0
  | x :: r => uptoBulkEntry x + uptoBulkEntries r
def uptoBulkEntry {H : Type} : Lit × DataW H → Nat
  | (.string bytes, d) => bytes.length + uptoBulk d + 1
  | (_, d) => uptoBulk d + 1
 end
def uptoSmall : (H : Type) → List (DataW H) → Bool := fun _ ds => decide (uptoBulkAll ds ≤ 1048576)
def OpenSpec.upto (s : _root_.Go.ChangeSpec) : _root_.Go.OpenSpec := { _root_.Go.OpenSpec.ofChange s with cond := some uptoSmall }

/-- 'seismonetlaw38.CatalogueActs', WHERE WHAT IT READS IS OF BULK AT MOST 1048576: true; the input reads as it did. -/
def catalogueActsUptoRow : OpenClaim := { program := "ythdgnfcbehcplaagreatdoor", sum := "80abdeb538e531fd5eed45e76aca58f1fffe17da371084d01a0e982936b7fccd", func := "seismonet/seismonetlaw38.CatalogueActs", spec := "catalogueActs", unfollowed := true, recurses := true, named := ["seismonet/catalogue.shown", "seismonet/catalogue.follows", "seismonet/catalogue.kept", "seismonet/catalogue.computed"], plainKeys := false, apart := false, laid := [("seismonet/catalogue.follows", laid_seismonet_catalogue_follows), ("seismonet/catalogue.computed", laid_seismonet_catalogue_computed), ("seismonet/catalogue.shown", laid_seismonet_catalogue_shown), ("seismonet/catalogue.kept", laid_seismonet_catalogue_kept)], narrowed := true }
def CatalogueActsUptoSaid : Prop := catalogueActsUptoRow.holds Tryz.pinned (OpenSpec.upto catalogueActsSpec)

/-- 'seismonetlaw38.CatalogueKept', WHERE WHAT IT READS IS OF BULK AT MOST 1048576: true; the input reads as it did. -/
def catalogueKeptUptoRow : OpenClaim := { program := "ythdgnfcbehcplaagreatdoor", sum := "80abdeb538e531fd5eed45e76aca58f1fffe17da371084d01a0e982936b7fccd", func := "seismonet/seismonetlaw38.CatalogueKept", spec := "catalogueKept", unfollowed := true, recurses := true, named := ["seismonet/catalogue.kept", "seismonet/catalogue.follows", "seismonet/catalogue.computed", "seismonet/catalogue.shown"], plainKeys := false, apart := false, laid := [("seismonet/catalogue.follows", laid_seismonet_catalogue_follows), ("seismonet/catalogue.computed", laid_seismonet_catalogue_computed), ("seismonet/catalogue.shown", laid_seismonet_catalogue_shown), ("seismonet/catalogue.kept", laid_seismonet_catalogue_kept)], narrowed := true }
def CatalogueKeptUptoSaid : Prop := catalogueKeptUptoRow.holds Tryz.pinned (OpenSpec.upto catalogueKeptSpec)

/-- 'seismonetlaw38.CataloguePublishes', WHERE WHAT IT READS IS OF BULK AT MOST 1048576: true; the input reads as it did. -/
def cataloguePublishesUptoRow : OpenClaim := { program := "ythdgnfcbehcplaagreatdoor", sum := "80abdeb538e531fd5eed45e76aca58f1fffe17da371084d01a0e982936b7fccd", func := "seismonet/seismonetlaw38.CataloguePublishes", spec := "cataloguePublishes", unfollowed := true, recurses := true, named := ["seismonet/catalogue.shown", "seismonet/catalogue.follows", "seismonet/catalogue.kept", "seismonet/catalogue.computed"], plainKeys := false, apart := false, laid := [("seismonet/catalogue.follows", laid_seismonet_catalogue_follows), ("seismonet/catalogue.computed", laid_seismonet_catalogue_computed), ("seismonet/catalogue.shown", laid_seismonet_catalogue_shown), ("seismonet/catalogue.kept", laid_seismonet_catalogue_kept)], narrowed := true }
def CataloguePublishesUptoSaid : Prop := cataloguePublishesUptoRow.holds Tryz.pinned (OpenSpec.upto cataloguePublishesSpec)

end Rows
end Go.Proofs.YthdgnfcbehcplaaGreatDoor
