/- Utc, the plain law: digits, without memory. -/
import Derived.Test.YtaanjciokdpkmaaDoorUtJ
namespace Go.Proofs.YtaanjciokdpkmaaDoor
set_option linter.unusedVariables false
set_option linter.unusedSimpArgs false
set_option linter.unnecessarySimpa false
/-- A number's last digits. -/
def pad (w n : Nat) : List UInt8 := (List.range w).map fun t => Lib.dg n (w - 1 - t)
theorem pad_len (w n : Nat) : (pad w n).length = w := by simp [pad]
theorem pad_succ (w n : Nat) : pad (w + 1) n = Lib.dg n w :: pad w n := by
  unfold pad
  rw [List.range_succ_eq_map, List.map_cons, List.map_map]
  congr 1
  apply List.map_congr_left
  intro t ht
  show Lib.dg n (w + 1 - 1 - (t + 1)) = _
  rw [show w + 1 - 1 - (t + 1) = w - 1 - t by omega]
theorem pad_zero {w n : Nat} (h : n < 10 ^ w) : pad (w + 1) n = 48 :: pad w n := by
  rw [pad_succ]
  congr 1
  unfold Lib.dg
  rw [Nat.div_eq_of_lt h]
  rfl
theorem dec_pad (n : Nat) : Lib.decDigits n = pad (Lib.nDigits n) n := Lib.decDigits_eq n
theorem dig_loop (n w : Nat) (hw : w ≤ 100) : ∀ (r f k : Nat), k + r = w → r < f → n < 10 ^ k → (F39_l4 600).L f ((w : Int), ⟨(pad k n).toArray⟩) = some ⟨(pad w n).toArray⟩
  | 0, f, k, hk, hf, hn => by
    obtain ⟨f, rfl⟩ : ∃ f', f = f' + 1 := ⟨f - 1, by omega⟩
    obtain rfl : k = w := by omega
    show (F39_l4 600).b _ _ ((F39_l4 600).L f) some = _
    generalize (F39_l4 600).L f = Lf
    have hs : (⟨(pad k n).toArray⟩ : ByteArray).size = k := by show (pad k n).toArray.size = k; simp [pad_len]
    simp only [F39_l4, hs, decide_eq_false (show ¬ (k : Int) < (k : Int) by omega)]
  | r + 1, f, k, hk, hf, hn => by
    obtain ⟨f, rfl⟩ : ∃ f', f = f' + 1 := ⟨f - 1, by omega⟩
    have R := dig_loop n w hw r f (k + 1) (by omega) (by omega) (by rw [Nat.pow_succ]; omega)
    show (F39_l4 600).b _ _ ((F39_l4 600).L f) some = _
    generalize (F39_l4 600).L f = Lf at R ⊢
    have hs : (⟨(pad k n).toArray⟩ : ByteArray).size = k := by show (pad k n).toArray.size = k; simp [pad_len]
    have ha : ((⟨#[48]⟩ : ByteArray) ++ (⟨(pad k n).toArray⟩ : ByteArray)) = ⟨(pad (k + 1) n).toArray⟩ := by
      rw [pad_zero hn]
      apply ByteArray.ext
      simp [ByteArray.data_append]
    have h1 : (⟨#[48]⟩ : ByteArray).size + k ≤ 9223372036854775807 := by
      show 1 + k ≤ _
      omega
    simp only [F39_l4, hs, decide_eq_true (show (k : Int) < (w : Int) by omega), ha]
    exact (if_pos h1).trans R
theorem nDig_le : ∀ (w n : Nat), n < 10 ^ (w + 1) → Lib.nDigits n ≤ w + 1
  | 0, n, h => by rw [Lib.nDigits_small (by simpa using h)]; omega
  | w + 1, n, h => by
    by_cases h1 : n < 10
    · rw [Lib.nDigits_small h1]; omega
    · rw [Lib.nDigits_big h1]
      have := nDig_le w (n / 10) (by rw [Nat.pow_succ] at h; omega)
      omega
theorem digits_ok {n w : Nat} (hw : 1 ≤ w ∧ w ≤ 100) (hn : n < 10 ^ w) (h64 : (n : Int) ≤ 9223372036854775807) : F39_d 600 ((n : Int), (w : Int)) = some ⟨(pad w n).toArray⟩ := by
  have I : F45_d 600 (n : Int) = some ⟨(pad (Lib.nDigits n) n).toArray⟩ := by
    show (if -9223372036854775808 ≤ (n : Int) ∧ (n : Int) ≤ 9223372036854775807 then some (⟨(Lib.itoa n).toArray⟩ : ByteArray) else none) = _
    rw [if_pos (by omega), Lib.itoa_nonneg, dec_pad]
  have hd : Lib.nDigits n ≤ w := by
    have := nDig_le (w - 1) n (by rw [show w - 1 + 1 = w by omega]; exact hn)
    omega
  have L : F39_d4 600 ((w : Int), ⟨(pad (Lib.nDigits n) n).toArray⟩) = some ⟨(pad w n).toArray⟩ := dig_loop n w hw.2 (w - Lib.nDigits n) 600 (Lib.nDigits n) (by omega) (by omega) (Lib.lt_pow_nDigits n)
  simp only [F39_d, FSpec.d, F39_s, I, L]
end Go.Proofs.YtaanjciokdpkmaaDoor
