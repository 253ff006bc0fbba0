/- Utc, the plain law: the chapter's example; UtcDates. -/
import Derived.Test.YtaanjciokdpkmaaDoorUtC
namespace Go.Proofs.YtaanjciokdpkmaaDoor
set_option linter.unusedVariables false
set_option linter.unusedSimpArgs false
set_option linter.unnecessarySimpa false
open Go.Lib in
theorem it_one {n : Nat} (h : n < 10) : F45_d 600 (n : Int) = some ⟨#[UInt8.ofNat (48 + n)]⟩ := by
  show (if -9223372036854775808 ≤ (n : Int) ∧ (n : Int) ≤ 9223372036854775807 then some (⟨(Lib.itoa n).toArray⟩ : ByteArray) else none) = _
  rw [if_pos (by omega), itoa_nonneg, decDigits_one h]
open Go.Lib in
theorem it_two {n : Nat} (h1 : ¬ n < 10) (h2 : n < 100) : F45_d 600 (n : Int) = some ⟨#[UInt8.ofNat (48 + n / 10), UInt8.ofNat (48 + n % 10)]⟩ := by
  show (if -9223372036854775808 ≤ (n : Int) ∧ (n : Int) ≤ 9223372036854775807 then some (⟨(Lib.itoa n).toArray⟩ : ByteArray) else none) = _
  rw [if_pos (by omega), itoa_nonneg, decDigits_two h1 h2]
open Go.Lib in
theorem it_1970 : F45_d 600 1970 = some ⟨#[49, 57, 55, 48]⟩ := by
  show (if -9223372036854775808 ≤ (1970 : Int) ∧ (1970 : Int) ≤ 9223372036854775807 then some (⟨(Lib.itoa 1970).toArray⟩ : ByteArray) else none) = _
  rw [if_pos (by omega), show (1970 : Int) = ((1970 : Nat) : Int) from rfl, itoa_nonneg, decDigits_eq, nDigits_unique 3 1970 (by decide) (by decide)]
  rfl
theorem dg_1970 : F39_d 600 (1970, 4) = some ⟨#[49, 57, 55, 48]⟩ := by
  simp only [F39_d, FSpec.d, F39_s, it_1970]; show _ = _; kernel_rfl
theorem dg_1 : F39_d 600 (1, 2) = some ⟨#[48, 49]⟩ := by
  have := it_one (n := 1) (by decide)
  simp only [F39_d, FSpec.d, F39_s, show F45_d 600 1 = _ from this]; show _ = _; kernel_rfl
theorem dg_23 : F39_d 600 (23, 2) = some ⟨#[50, 51]⟩ := by
  have := it_two (n := 23) (by decide) (by decide)
  simp only [F39_d, FSpec.d, F39_s, show F45_d 600 23 = _ from this]; show _ = _; kernel_rfl
theorem dg_59 : F39_d 600 (59, 2) = some ⟨#[53, 57]⟩ := by
  have := it_two (n := 59) (by decide) (by decide)
  simp only [F39_d, FSpec.d, F39_s, show F45_d 600 59 = _ from this]; show _ = _; kernel_rfl
theorem dg_60 : F39_d 600 (60, 2) = some ⟨#[54, 48]⟩ := by
  have := it_two (n := 60) (by decide) (by decide)
  simp only [F39_d, FSpec.d, F39_s, show F45_d 600 60 = _ from this]; show _ = _; kernel_rfl
theorem dg_7 : F39_d 600 (7, 6) = some ⟨#[48, 48, 48, 48, 48, 55]⟩ := by
  have := it_one (n := 7) (by decide)
  simp only [F39_d, FSpec.d, F39_s, show F45_d 600 7 = _ from this]; show _ = _; kernel_rfl
theorem sane1 : F18_d 600 ([[AV.v (.int .i64 86400)]], 86400000000) = some (1970, 1, 1, 23, 59, 60, 0, 0) := by kernel_rfl
theorem sane2 : F23_d 600 ([[AV.v (.int .i64 86400)]], 1970, 1, 2, 0, 0, 0, 0) = some (86401000000, 0) := by kernel_rfl
theorem sane3 : F18_d 600 ([[AV.v (.int .i64 86400)]], 86400000007) = some (1970, 1, 1, 23, 59, 60, 7, 0) := by kernel_rfl
theorem sane4 : F16_d 600 ([[AV.v (.int .i64 86400)]], 86400000007) = some (⟨#[49, 57, 55, 48, 45, 48, 49, 45, 48, 49, 84, 50, 51, 58, 53, 57, 58, 54, 48, 46, 48, 48, 48, 48, 48, 55, 90]⟩, 0) := by
  simp only [F16_d, FSpec.d, F16_s, sane3, dg_1970, dg_1, dg_23, dg_59, dg_60, dg_7]
  show _ = _; kernel_rfl
theorem sane_ok : F12_d 600 () = some true := by
  simp only [F12_d, FSpec.d, F12_s, sane1, sane2, sane4]
  show _ = _; kernel_rfl
end Go.Proofs.YtaanjciokdpkmaaDoor
