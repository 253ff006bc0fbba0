/- Natural numbers, the document's functions: mul, without memory. -/
import Derived.Test.YtlpebecbipjoaaaGreatDoorNeB
namespace Go.Proofs.YtlpebecbipjoaaaGreatDoor
open Go.RowKit
set_option linter.unusedVariables false
set_option linter.unusedSimpArgs false
set_option linter.unnecessarySimpa false
theorem rmul_round {a b O : List Int} (hb : Dg b) (L i X C k f : Nat) (hX : X < 1073741824) (hL : L ≤ 500) (hik : i + k < L) (hl : O.length = L) (hd : Dg O) (hC : C < 1073741824) (ga : ((rowsI a)[((i : Int)).toNat]? : Option (List AV)) = some [AV.v (.int .i64 (X : Int))]) (D Y : Nat) (hD : (cellsI O)[i + k]? = some (AV.v (.int .i64 (D : Int)))) (hD2 : D < 1073741824) (hY : dgt b k = (Y : Int)) (hY2 : Y < 1073741824) (hgo : k < b.length ∨ C > 0) (hkb : k ≤ b.length) :
    (F48_l14 600).L (f + 1) (rowsI a, rowsI b, L, (i : Int), (C : Int), (k : Int), cellsI O) = (F48_l14 600).L f (rowsI a, rowsI b, L, (i : Int), (((C + (D + X * Y)) / 1073741824 : Nat) : Int), ((k + 1 : Nat) : Int), cellsI (O.set (i + k) (((C + (D + X * Y)) % 1073741824 : Nat) : Int))) := by
  have hXY : X * Y ≤ 1073741823 * 1073741823 := Nat.mul_le_mul (by omega) (by omega)
  have eXY : ((X : Int) * (Y : Int)) = ((X * Y : Nat) : Int) := by simp
  have hXY0 : Y = 0 → X * Y = 0 := fun e => by rw [e, Nat.mul_zero]
  generalize hM : X * Y = M at *
  show (F48_l14 600).b _ _ ((F48_l14 600).L f) some = _
  generalize (F48_l14 600).L f = Lf
  have e0 : i64 ((i : Int) + (k : Int)) = ((i + k : Nat) : Int) := by rw [i64_id (by omega)]; omega
  have g0 : ((0 + (((i + k : Nat) : Int)).toNat) * 1) = i + k := by omega
  have h1 : (0 : Int) ≤ ((i + k : Nat) : Int) ∧ ((i + k : Nat) : Int) < (L : Int) := by omega
  have h2 : i + k + 1 ≤ (cellsI O).length := by rw [cellsI_len]; omega
  have h3 : (0 : Int) ≤ (i : Int) := by omega
  have h4 : (0 : Int) ≤ (k : Int) := by omega
  have e6 : i64 ((k : Int) + 1) = ((k + 1 : Nat) : Int) := by rw [i64_id (by omega)]; omega
  have eD : i64 ((C : Int) + (D : Int)) = ((C + D : Nat) : Int) := by rw [i64_id (by omega)]; omega
  by_cases hlt : k < b.length
  · have gb : ((rowsI b)[((k : Int)).toNat]? : Option (List AV)) = some [AV.v (.int .i64 (Y : Int))] := by rw [show ((k : Int)).toNat = k by omega, rowsI_get _ k hlt, ← dgt_get b k hlt, hY]
    have e1 : i64 ((X : Int) * (Y : Int)) = ((M : Nat) : Int) := by rw [eXY]; exact i64_id (by omega)
    have e3 : i64 (((C + D : Nat) : Int) + ((M : Nat) : Int)) = ((C + (D + M) : Nat) : Int) := by rw [i64_id (by omega)]; omega
    have e4 : (((C + (D + M) : Nat) : Int)).tmod 1073741824 = (((C + (D + M)) % 1073741824 : Nat) : Int) := by rw [Int.tmod_eq_emod_of_nonneg (by omega)]; omega
    have e5 : i64 ((((C + (D + M) : Nat) : Int)).tdiv 1073741824) = (((C + (D + M)) / 1073741824 : Nat) : Int) := by rw [Int.tdiv_eq_ediv_of_nonneg (by omega), i64_id (by omega)]; omega
    simp only [F48_l14, rowsI_len, decide_eq_true (show ((k : Int) < (b.length : Int)) by omega), e0, g0, hD, ga, gb, List.getElem?_cons_zero, eD, e1, e3, e4, e5, e6, cellsI_set, cellsI_dat]
    exact (if_pos h1).trans ((if_pos trivial).trans ((if_pos h3).trans ((if_pos trivial).trans ((if_pos h4).trans ((if_pos trivial).trans ((if_pos h1).trans (if_pos h2)))))))
  · have hC0 : C > 0 := by rcases hgo with q | q; exact absurd q hlt; exact q
    have hY0 : Y = 0 := by rw [dgt_out hlt] at hY; omega
    have hM0 := hXY0 hY0
    have eM : C + (D + M) = C + D := by omega
    rw [eM]
    have e4 : (((C + D : Nat) : Int)).tmod 1073741824 = (((C + D) % 1073741824 : Nat) : Int) := by rw [Int.tmod_eq_emod_of_nonneg (by omega)]; omega
    have e5 : i64 ((((C + D : Nat) : Int)).tdiv 1073741824) = (((C + D) / 1073741824 : Nat) : Int) := by rw [Int.tdiv_eq_ediv_of_nonneg (by omega), i64_id (by omega)]; omega
    simp only [F48_l14, rowsI_len, decide_eq_false (show ¬ ((k : Int) < (b.length : Int)) by omega), decide_eq_true (show ((C : Int) > 0) by omega), e0, g0, hD, eD, e4, e5, e6, cellsI_set, cellsI_dat]
    exact (if_pos h1).trans ((if_pos trivial).trans ((if_pos h1).trans (if_pos h2)))
theorem rmul_exit {a b O : List Int} (L i k f : Nat) (hk : ¬ k < b.length) : (F48_l14 600).L (f + 1) (rowsI a, rowsI b, L, (i : Int), 0, (k : Int), cellsI O) = some (rowsI a, rowsI b, L, (i : Int), cellsI O) := by
  show (F48_l14 600).b _ _ ((F48_l14 600).L f) some = _
  generalize (F48_l14 600).L f = Lf
  simp only [F48_l14, rowsI_len, decide_eq_false (show ¬ ((k : Int) < (b.length : Int)) by omega), decide_eq_false (show ¬ ((0 : Int) > 0) by omega), cellsI_dat]
theorem rmulin_loop {a b : List Int} (hb : Dg b) (L i X : Nat) (hX : X < 1073741824) (hL : L ≤ 500) (hi : i + b.length + 1 ≤ L) (ga : ((rowsI a)[((i : Int)).toNat]? : Option (List AV)) = some [AV.v (.int .i64 (X : Int))]) (V0 : Nat) (hT : V0 + Bs ^ i * (X * vv b) < Bs ^ (i + (b.length + 1))) : ∀ (r f k : Nat) (O : List Int) (C : Nat), k + r = b.length + 1 → r < f → O.length = L → Dg O → C < 1073741824 → vv O + Bs ^ (i + k) * C = V0 + Bs ^ i * (X * vv (b.take k)) → ∃ (O' : List Int), (F48_l14 600).L f (rowsI a, rowsI b, L, (i : Int), (C : Int), (k : Int), cellsI O) = some (rowsI a, rowsI b, L, (i : Int), cellsI O') ∧ O'.length = L ∧ Dg O' ∧ vv O' = V0 + Bs ^ i * (X * vv b) := by
  intro r
  induction r with
  | zero =>
    intro f k O C hk hf hl hd hC hv
    obtain ⟨f, rfl⟩ : ∃ f', f = f' + 1 := ⟨f - 1, by omega⟩
    have hk' : k = b.length + 1 := by omega
    subst hk'
    rw [List.take_of_length_le (by omega)] at hv
    have hC0 : C = 0 := by
      rcases Nat.eq_zero_or_pos C with z | z
      · exact z
      · exfalso
        have : Bs ^ (i + (b.length + 1)) * 1 ≤ Bs ^ (i + (b.length + 1)) * C := Nat.mul_le_mul_left _ z
        omega
    subst hC0
    rw [Nat.mul_zero, Nat.add_zero] at hv
    exact ⟨O, rmul_exit L i _ f (by omega), hl, hd, hv⟩
  | succ r ih =>
    intro f k O C hk hf hl hd hC hv
    obtain ⟨f, rfl⟩ : ∃ f', f = f' + 1 := ⟨f - 1, by omega⟩
    by_cases hgo : k < b.length ∨ C > 0
    · have hj : i + k < O.length := by omega
      have rD := hd.get (i + k) hj
      have rY := dgt_rng hb k
      have tb := vv_takeD b k
      have hset := fun d => vv_set O (i + k) d hj
      have gO := cellsI_get O (i + k) hj
      generalize O[i + k] = D0 at *
      obtain ⟨D, rfl⟩ := Int.eq_ofNat_of_zero_le rD.1
      obtain ⟨Y, hY⟩ := Int.eq_ofNat_of_zero_le rY.1
      have hXY : X * Y ≤ 1073741823 * 1073741823 := Nat.mul_le_mul (by omega) (by omega)
      rw [rmul_round (a := a) hb L i X C k f hX hL (by omega) hl hd hC ga D Y gO (by omega) hY (by omega) hgo (by omega)]
      have hmd : (C + (D + X * Y)) % 1073741824 < 1073741824 := Nat.mod_lt _ (by decide)
      have hdv : (C + (D + X * Y)) / 1073741824 < 1073741824 := by omega
      refine ih f (k + 1) _ _ (by omega) (by omega) (by simp [hl]) (hd.set _ (by omega)) hdv ?_
      have h1 := hset ((((C + (D + X * Y)) % 1073741824 : Nat) : Int))
      have h3 : (C + (D + X * Y)) % 1073741824 + 1073741824 * ((C + (D + X * Y)) / 1073741824) = C + (D + X * Y) := Nat.mod_add_div _ _
      rw [show i + (k + 1) = i + k + 1 by omega, bs_pow, tb, hY]
      simp only [Int.toNat_natCast] at h1 ⊢
      exact mul_step h1 hv h3 (Nat.pow_add ..)
    · have hC0 : C = 0 := by omega
      subst hC0
      rw [List.take_of_length_le (by omega), Nat.mul_zero, Nat.add_zero] at hv
      exact ⟨O, rmul_exit L i _ f (by omega), hl, hd, hv⟩
theorem rmulout_loop {a b : List Int} (ha : Dg a) (hb : Dg b) (hL : a.length + b.length ≤ 500) : ∀ (r f i : Nat) (O : List Int), i + r = a.length → r < f → O.length = a.length + b.length → Dg O → vv O = vv (a.take i) * vv b → ∃ (O' : List Int), (F48_l5 600).L f (rowsI a, rowsI b, a.length + b.length, (i : Int), cellsI O) = some (a.length + b.length, cellsI O') ∧ O'.length = a.length + b.length ∧ Dg O' ∧ vv O' = vv a * vv b
  | 0, f, i, O, hi, hf, hl, hd, hv => by
    obtain ⟨f, rfl⟩ : ∃ f', f = f' + 1 := ⟨f - 1, by omega⟩
    obtain rfl : i = a.length := by omega
    rw [List.take_length] at hv
    refine ⟨O, ?_, hl, hd, hv⟩
    show (F48_l5 600).b _ _ ((F48_l5 600).L f) some = _
    generalize (F48_l5 600).L f = Lf
    simp only [F48_l5, rowsI_len, decide_eq_false (show ¬ ((a.length : Int) < (a.length : Int)) by omega), cellsI_dat]
  | r + 1, f, i, O, hi, hf, hl, hd, hv => by
    obtain ⟨f, rfl⟩ : ∃ f', f = f' + 1 := ⟨f - 1, by omega⟩
    have hia : i < a.length := by omega
    have rx := ha.get i hia
    have ta := vv_take_succ a i hia
    have ga : ((rowsI a)[((i : Int)).toNat]? : Option (List AV)) = some [AV.v (.int .i64 a[i])] := by rw [show ((i : Int)).toNat = i by omega, rowsI_get _ i hia]
    obtain ⟨X, hX⟩ := Int.eq_ofNat_of_zero_le rx.1
    rw [hX] at ga ta rx
    have hlt := vv_lt (ha.take (i + 1))
    rw [List.length_take, Nat.min_eq_left (by omega)] at hlt
    have e1 : vv (a.take i) * vv b + Bs ^ i * (X * vv b) = vv (a.take (i + 1)) * vv b := by
      rw [ta, Int.toNat_natCast, Nat.add_mul, Nat.mul_assoc]
    have hT : vv O + Bs ^ i * (X * vv b) < Bs ^ (i + (b.length + 1)) := by
      have k2 := vv_lt hb
      rw [hv, e1, show i + (b.length + 1) = (i + 1) + b.length by omega, Nat.pow_add]
      exact Nat.mul_lt_mul'' hlt k2
    obtain ⟨O1, q, q1, q2, q3⟩ := rmulin_loop (a := a) hb (a.length + b.length) i X (by omega) hL (by omega) ga (vv O) hT (b.length + 1) 600 0 O 0 (by omega) (by omega) hl hd (by omega) (by simp [vv])
    have q' : F48_d14 600 (rowsI a, rowsI b, a.length + b.length, (i : Int), 0, 0, cellsI O) = some (rowsI a, rowsI b, a.length + b.length, (i : Int), cellsI O1) := q
    rw [hv, e1] at q3
    obtain ⟨O', r0, r1, r2, r3⟩ := rmulout_loop ha hb hL r f (i + 1) O1 (by omega) (by omega) q1 q2 q3
    refine ⟨O', ?_, r1, r2, r3⟩
    show (F48_l5 600).b _ _ ((F48_l5 600).L f) some = _
    generalize (F48_l5 600).L f = Lf at r0 ⊢
    have e2 : i64 ((i : Int) + 1) = ((i + 1 : Nat) : Int) := by rw [i64_id (by omega)]; omega
    simp only [F48_l5, rowsI_len, decide_eq_true (show ((i : Int) < (a.length : Int)) by omega), cellsI_dat, q', e2]
    exact r0
theorem rmul_ok {a b : List Int} (ha : Dg a) (hb : Dg b) (hL : a.length + b.length ≤ 500) : F48_d 600 (rowsI a, rowsI b) = some (rowsI (nf (vv a * vv b))) := by
  have e1 : i64 ((a.length : Int) + (b.length : Int)) = ((a.length + b.length : Nat) : Int) := by rw [i64_id (by omega)]; omega
  obtain ⟨O, r0, r1, r2, r3⟩ := rmulout_loop ha hb hL a.length 600 0 (List.replicate (a.length + b.length) 0) (by omega) (by omega) (by simp) (Dg.zeros _) (by rw [vv_zeros]; simp [vv])
  have L : F48_d5 600 (rowsI a, rowsI b, a.length + b.length, 0, cellsI (List.replicate (a.length + b.length) 0)) = some (a.length + b.length, cellsI O) := r0
  have T := rtrim_ok (xs := O) (by omega)
  rw [trim_nf r2, r3] at T
  have h1 : (0 : Int) ≤ ((a.length + b.length : Nat) : Int) ∧ ((a.length + b.length : Nat) : Int) ≤ ((a.length + b.length : Nat) : Int) ∧ (((a.length + b.length : Nat) : Int)).toNat * 8 ≤ maxBytes := by
    have : 100000 ≤ maxBytes := by decide
    omega
  have h2 : (a.length + b.length) * 1 ≤ (cellsI O).length := by rw [cellsI_len]; omega
  simp only [F48_d, FSpec.d, F48_s, rowsI_len, e1, Int.toNat_natCast, zeros_cells, cellsI_dat, L, chunks_all O _ r1, T]
  exact (if_pos h1).trans (if_pos h2)
theorem rmulx_ok {a b : List Int} (ha : VN a) (hb : VN b) : F14_d 600 (rowsI a, rowsI b) = some (limR (vv a * vv b)) := by
  have h1 := ha.1
  have h2 := hb.1
  simp only [F14_d, FSpec.d, F14_s, rvalid_ok ha, rvalid_ok hb, Bool.not_true, rmul_ok ha.2.1 hb.2.1 (by omega), rlim_ok]
/-! Both packages, for any numbers. -/
def limP (V : Nat) : List Int × Int := if V < Bs ^ 64 then (nf V, 0) else ([], 8)
theorem limP_R (V : Nat) : limR V = (rowsI (limP V).1, (limP V).2) := by
  unfold limR limP
  split <;> rfl
theorem limP_len (V : Nat) : (limP V).1.length ≤ 590 := by
  unfold limP
  split
  · have := (VN.nf (by assumption)).1; show (nf V).length ≤ 590; omega
  · show 0 ≤ 590; omega
open Classical in
noncomputable def addP (a b : List Int) : List Int × Int := if VN a ∧ VN b then limP (vv a + vv b) else ([], 1)
open Classical in
noncomputable def subP (a b : List Int) : List Int × Int := if VN a ∧ VN b then (if vv a < vv b then ([], 2) else (nf (vv a - vv b), 0)) else ([], 1)
open Classical in
noncomputable def mulP (a b : List Int) : List Int × Int := if VN a ∧ VN b then limP (vv a * vv b) else ([], 1)
open Classical in
noncomputable def cmpP (a b : List Int) : Int := if VN a ∧ VN b then cmpV (vv a) (vv b) else 0
theorem both_any {a b : List Int} (la : a.length ≤ 590) (lb : b.length ≤ 590) (h : ¬ (VN a ∧ VN b)) : F40_d 600 (rowsI a, rowsI b) = some false := by
  by_cases ha : VN a
  · have hb : ¬ VN b := fun hb => h ⟨ha, hb⟩
    simp only [F40_d, FSpec.d, F40_s, valid_ok ha, valid_no lb hb]
  · simp only [F40_d, FSpec.d, F40_s, valid_no la ha]
theorem add_any {a b : List Int} (la : a.length ≤ 590) (lb : b.length ≤ 590) : F9_d 600 (rowsI a, rowsI b) = some (rowsI (addP a b).1, (addP a b).2) ∧ F10_d 600 (rowsI a, rowsI b) = some (rowsI (addP a b).1, (addP a b).2) := by
  unfold addP
  by_cases h : VN a ∧ VN b
  · rw [if_pos h, ← limP_R]
    exact ⟨add_ok h.1 h.2, radd_ok h.1 h.2⟩
  · rw [if_neg h]
    constructor
    · simp only [F9_d, FSpec.d, F9_s, both_any la lb h, Bool.not_false]; rfl
    · by_cases ha : VN a
      · have hb : ¬ VN b := fun hb => h ⟨ha, hb⟩
        simp only [F10_d, FSpec.d, F10_s, rvalid_ok ha, rvalid_no lb hb, Bool.not_true, Bool.not_false]; rfl
      · simp only [F10_d, FSpec.d, F10_s, rvalid_no la ha, Bool.not_false]; rfl
theorem sub_any {a b : List Int} (la : a.length ≤ 590) (lb : b.length ≤ 590) : F11_d 600 (rowsI a, rowsI b) = some (rowsI (subP a b).1, (subP a b).2) ∧ F12_d 600 (rowsI a, rowsI b) = some (rowsI (subP a b).1, (subP a b).2) := by
  unfold subP
  by_cases h : VN a ∧ VN b
  · rw [if_pos h]
    have e : (if vv a < vv b then ([], 2) else (rowsI (nf (vv a - vv b)), 0) : List (List AV) × Int) = (rowsI (if vv a < vv b then ([], 2) else (nf (vv a - vv b), 0) : List Int × Int).1, (if vv a < vv b then ([], 2) else (nf (vv a - vv b), 0) : List Int × Int).2) := by split <;> rfl
    rw [← e]
    exact ⟨sub_ok h.1 h.2, rsub_ok h.1 h.2⟩
  · rw [if_neg h]
    constructor
    · simp only [F11_d, FSpec.d, F11_s, both_any la lb h, Bool.not_false]; rfl
    · by_cases ha : VN a
      · have hb : ¬ VN b := fun hb => h ⟨ha, hb⟩
        simp only [F12_d, FSpec.d, F12_s, rvalid_ok ha, rvalid_no lb hb, Bool.not_true, Bool.not_false]; rfl
      · simp only [F12_d, FSpec.d, F12_s, rvalid_no la ha, Bool.not_false]; rfl
theorem mul_any {a b : List Int} (la : a.length ≤ 590) (lb : b.length ≤ 590) : F13_d 600 (rowsI a, rowsI b) = some (rowsI (mulP a b).1, (mulP a b).2) ∧ F14_d 600 (rowsI a, rowsI b) = some (rowsI (mulP a b).1, (mulP a b).2) := by
  unfold mulP
  by_cases h : VN a ∧ VN b
  · rw [if_pos h, ← limP_R]
    exact ⟨mulx_ok h.1 h.2, rmulx_ok h.1 h.2⟩
  · rw [if_neg h]
    constructor
    · simp only [F13_d, FSpec.d, F13_s, both_any la lb h, Bool.not_false]; rfl
    · by_cases ha : VN a
      · have hb : ¬ VN b := fun hb => h ⟨ha, hb⟩
        simp only [F14_d, FSpec.d, F14_s, rvalid_ok ha, rvalid_no lb hb, Bool.not_true, Bool.not_false]; rfl
      · simp only [F14_d, FSpec.d, F14_s, rvalid_no la ha, Bool.not_false]; rfl
theorem cmp_any {a b : List Int} (la : a.length ≤ 590) (lb : b.length ≤ 590) : F16_d 600 (rowsI a, rowsI b) = some (cmpP a b) ∧ F17_d 600 (rowsI a, rowsI b) = some (cmpP a b) := by
  unfold cmpP
  by_cases h : VN a ∧ VN b
  · rw [if_pos h]
    exact ⟨cmpX_ok h.1 h.2, by simp only [F17_d, FSpec.d, F17_s, rvalid_ok h.1, rvalid_ok h.2, Bool.not_true, rcmp_ok h.1.2.1 h.2.2.1 h.1.2.2 h.2.2.2 la]⟩
  · rw [if_neg h]
    constructor
    · simp only [F16_d, FSpec.d, F16_s, both_any la lb h, Bool.not_false]
    · by_cases ha : VN a
      · have hb : ¬ VN b := fun hb => h ⟨ha, hb⟩
        simp only [F17_d, FSpec.d, F17_s, rvalid_ok ha, rvalid_no lb hb, Bool.not_true, Bool.not_false]
      · simp only [F17_d, FSpec.d, F17_s, rvalid_no la ha, Bool.not_false]
theorem addP_len (a b : List Int) : (addP a b).1.length ≤ 590 := by
  unfold addP; split
  · exact limP_len _
  · show 0 ≤ 590; omega
theorem mulP_len (a b : List Int) : (mulP a b).1.length ≤ 590 := by
  unfold mulP; split
  · exact limP_len _
  · show 0 ≤ 590; omega
theorem subP_len (a b : List Int) : (subP a b).1.length ≤ 590 := by
  unfold subP; split
  · rename_i h
    split
    · show 0 ≤ 590; omega
    · have := (nf_len 64 (vv a - vv b)).2 (by have := h.1.lt; omega)
      show (nf (vv a - vv b)).length ≤ 590
      omega
  · show 0 ≤ 590; omega
theorem divP_len (a : List Int) (d : Int) : (divP a d).1.length ≤ 590 := by
  unfold divP; split
  · rename_i h
    split
    · have := (nf_len 64 (vv a / d.toNat)).2 (Nat.lt_of_le_of_lt (Nat.div_le_self ..) h.lt)
      show (nf (vv a / d.toNat)).length ≤ 590
      omega
    · show 0 ≤ 590; omega
  · show 0 ≤ 590; omega
theorem same_refl {a : List Int} (h : a.length ≤ 590) : F15_d 600 (rowsI a, rowsI a) = some true := (same_ok h).trans (by simp)
end Go.Proofs.YtlpebecbipjoaaaGreatDoor
