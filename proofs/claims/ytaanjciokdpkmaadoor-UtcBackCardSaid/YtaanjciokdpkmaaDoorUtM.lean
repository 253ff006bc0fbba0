/- Utc, the plain law: texts of civil times, without memory. -/
import Derived.Test.YtaanjciokdpkmaaDoorUtL
namespace Go.Proofs.YtaanjciokdpkmaaDoor
set_option linter.unusedVariables false
set_option linter.unusedSimpArgs false
set_option linter.unnecessarySimpa false
def padB (w n : Nat) : ByteArray := ⟨(pad w n).toArray⟩
theorem padB_size (w n : Nat) : (padB w n).size = w := by show (pad w n).toArray.size = w; simp [pad_len]
theorem one_size (x : UInt8) : (⟨#[x]⟩ : ByteArray).size = 1 := rfl
/-- A civil time's text. -/
def fmtB (y m d hh mm ss us : Nat) : ByteArray := (((((((((((((padB 4 y ++ ⟨#[45]⟩) ++ padB 2 m) ++ ⟨#[45]⟩) ++ padB 2 d) ++ ⟨#[84]⟩) ++ padB 2 hh) ++ ⟨#[58]⟩) ++ padB 2 mm) ++ ⟨#[58]⟩) ++ padB 2 ss) ++ ⟨#[46]⟩) ++ padB 6 us) ++ ⟨#[90]⟩)
theorem dgB {n w : Nat} (hw : 1 ≤ w ∧ w ≤ 100) (hn : n < 10 ^ w) (h64 : (n : Int) ≤ 9223372036854775807) : F39_d 600 ((n : Int), (w : Int)) = some (padB w n) := digits_ok hw hn h64
theorem format_ok {l : List (List AV)} {t : Int} {y m d hh mm ss us : Nat} (h : F18_d 600 (l, t) = some ((y : Int), (m : Int), (d : Int), (hh : Int), (mm : Int), (ss : Int), (us : Int), 0)) (b : y < 10000 ∧ m < 100 ∧ d < 100 ∧ hh < 100 ∧ mm < 100 ∧ ss < 100 ∧ us < 1000000) : F16_d 600 (l, t) = some (fmtB y m d hh mm ss us, 0) := by
  obtain ⟨b1, b2, b3, b4, b5, b6, b7⟩ := b
  have g1 : F39_d 600 ((y : Int), 4) = some (padB 4 y) := dgB (w := 4) (by omega) b1 (by omega)
  have g2 : F39_d 600 ((m : Int), 2) = some (padB 2 m) := dgB (w := 2) (by omega) b2 (by omega)
  have g3 : F39_d 600 ((d : Int), 2) = some (padB 2 d) := dgB (w := 2) (by omega) b3 (by omega)
  have g4 : F39_d 600 ((hh : Int), 2) = some (padB 2 hh) := dgB (w := 2) (by omega) b4 (by omega)
  have g5 : F39_d 600 ((mm : Int), 2) = some (padB 2 mm) := dgB (w := 2) (by omega) b5 (by omega)
  have g6 : F39_d 600 ((ss : Int), 2) = some (padB 2 ss) := dgB (w := 2) (by omega) b6 (by omega)
  have g7 : F39_d 600 ((us : Int), 6) = some (padB 6 us) := dgB (w := 6) (by omega) b7 (by omega)
  have z : ((0 : Int) != 0) = false := rfl
  simp only [F16_d, FSpec.d, F16_s, h, z, g1, g2, g3, g4, g5, g6, g7, ByteArray.size_append, padB_size, one_size, Nat.reduceAdd, Nat.reduceLeDiff, if_true]
  rfl
end Go.Proofs.YtaanjciokdpkmaaDoor
