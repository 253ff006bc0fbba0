/- Natural numbers, the plain law: multiply, divide, without memory. -/
import Derived.Test.YtlpebecbipjoaaaGreatDoorNaD
namespace Go.Proofs.YtlpebecbipjoaaaGreatDoor
set_option linter.unusedVariables false
set_option linter.unusedSimpArgs false
set_option linter.unnecessarySimpa false
theorem mul_step {v v' A K P V0 X T C D d c Y : Nat} (h1 : v' + P * D = v + P * d) (h2 : v + P * C = V0 + A * (X * T)) (h3 : d + 1073741824 * c = C + (D + X * Y)) (h4 : P = A * K) : v' + P * 1073741824 * c = V0 + A * (X * (T + K * Y)) := by
  have e := congrArg (P * ·) h3
  simp only [Nat.mul_add] at e
  have e1 : P * (1073741824 * c) = P * 1073741824 * c := by rw [Nat.mul_assoc]
  have e2 : A * (X * (T + K * Y)) = A * (X * T) + P * (X * Y) := by
    rw [h4, Nat.mul_add, Nat.mul_add, Nat.mul_assoc A K, Nat.mul_left_comm K X Y]
  rw [e2]
  rw [e1] at e
  omega
theorem mulin_loop {a b : List Int} (hb : Dg b) (L i : Nat) (X : Nat) (hX : X < 1073741824) (hL : L ≤ 500) (hi : i + b.length + 1 ≤ L) (n5 n6 : Int) (V0 : Nat) : ∀ (r f k : Nat) (O : List Int) (C : Nat), k + r = b.length + 1 → r < f → O.length = L → Dg O → C < 1073741824 → vv O + Bs ^ (i + k) * C = V0 + Bs ^ i * (X * vv (b.take k)) → ∃ (O' : List Int) (C' : Nat), (F47_l15 600).L f (rowsI b, rowsI a, L, (i : Int), (X : Int), (C : Int), n5, n6, ((b.length + 1 : Nat) : Int), (k : Int), cellsI O) = some (rowsI b, rowsI a, L, n5, n6, cellsI O') ∧ O'.length = L ∧ Dg O' ∧ C' < 1073741824 ∧ vv O' + Bs ^ (i + (b.length + 1)) * C' = V0 + Bs ^ i * (X * vv b)
  | 0, f, k, O, C, hk, hf, hl, hd, hC, hv => by
    obtain ⟨f, rfl⟩ : ∃ f', f = f' + 1 := ⟨f - 1, by omega⟩
    obtain rfl : k = b.length + 1 := by omega
    rw [List.take_of_length_le (by omega)] at hv
    refine ⟨O, C, ?_, hl, hd, hC, hv⟩
    show (F47_l15 600).b _ _ ((F47_l15 600).L f) some = _
    generalize (F47_l15 600).L f = Lf
    simp only [F47_l15, decide_eq_false (show ¬ (((b.length + 1 : Nat) : Int) < ((b.length + 1 : Nat) : Int)) by omega), cellsI_dat]
  | r + 1, f, k, O, C, hk, hf, hl, hd, hC, hv => by
    obtain ⟨f, rfl⟩ : ∃ f', f = f' + 1 := ⟨f - 1, by omega⟩
    have hj : i + k < O.length := by omega
    have rD := hd.get (i + k) hj
    have rY := dgt_rng hb k
    have tb := vv_takeD b k
    have gb := digit_ok 600 b k
    have hset := fun d => vv_set O (i + k) d hj
    have gO := cellsI_get O (i + k) hj
    generalize O[i + k] = D0 at *
    generalize dgt b k = Y0 at *
    obtain ⟨D, rfl⟩ := Int.eq_ofNat_of_zero_le rD.1
    obtain ⟨Y, rfl⟩ := Int.eq_ofNat_of_zero_le rY.1
    have hXY : X * Y ≤ 1073741823 * 1073741823 := Nat.mul_le_mul (by omega) (by omega)
    have eXY : ((X : Int) * (Y : Int)) = ((X * Y : Nat) : Int) := by simp
    generalize hM : X * Y = M at *
    have hmd : (C + (D + M)) % 1073741824 < 1073741824 := Nat.mod_lt _ (by decide)
    have hdv : (C + (D + M)) / 1073741824 < 1073741824 := by omega
    obtain ⟨O', C', q, q1, q2, q3, q4⟩ := mulin_loop (a := a) hb L i X hX hL hi n5 n6 V0 r f (k + 1) (O.set (i + k) (((C + (D + M)) % 1073741824 : Nat) : Int)) ((C + (D + M)) / 1073741824) (by omega) (by omega) (by simp [hl]) (hd.set _ (by omega)) hdv (by
      have h1 := hset ((((C + (D + M)) % 1073741824 : Nat) : Int))
      have h3 : (C + (D + M)) % 1073741824 + 1073741824 * ((C + (D + M)) / 1073741824) = C + (D + X * Y) := by rw [hM]; exact Nat.mod_add_div _ _
      rw [show i + (k + 1) = i + k + 1 by omega, bs_pow, tb]
      simp only [Int.toNat_natCast] at h1 ⊢
      exact mul_step h1 hv h3 (Nat.pow_add ..))
    refine ⟨O', C', ?_, q1, q2, q3, q4⟩
    show (F47_l15 600).b _ _ ((F47_l15 600).L f) some = _
    generalize (F47_l15 600).L f = Lf at q ⊢
    have e0 : i64 ((i : Int) + (k : Int)) = ((i + k : Nat) : Int) := by rw [i64_id (by omega)]; omega
    have e1 : i64 ((X : Int) * (Y : Int)) = ((M : Nat) : Int) := by rw [eXY]; exact i64_id (by omega)
    have e2 : i64 ((D : Int) + (M : Int)) = ((D + M : Nat) : Int) := by rw [i64_id (by omega)]; omega
    have e3 : i64 ((C : Int) + ((D + M : Nat) : Int)) = ((C + (D + M) : Nat) : Int) := by rw [i64_id (by omega)]; omega
    have e4 : (((C + (D + M) : Nat) : Int)).tmod 1073741824 = (((C + (D + M)) % 1073741824 : Nat) : Int) := by rw [Int.tmod_eq_emod_of_nonneg (by omega)]; omega
    have e5 : shR .i64 (((C + (D + M) : Nat) : Int)) (30 : Int) = (((C + (D + M)) / 1073741824 : Nat) : Int) := by rw [shR30]; omega
    have e6 : i64 ((k : Int) + 1) = ((k + 1 : Nat) : Int) := by rw [i64_id (by omega)]; omega
    have g0 : ((0 + (((i + k : Nat) : Int)).toNat) * 1) = i + k := by omega
    have h1 : (0 : Int) ≤ ((i + k : Nat) : Int) ∧ ((i + k : Nat) : Int) < (L : Int) := by omega
    have h2 : i + k + 1 ≤ (cellsI O).length := by rw [cellsI_len]; omega
    simp only [F47_l15, decide_eq_true (show ((k : Int) < ((b.length + 1 : Nat) : Int)) by omega), e0, decide_eq_true (show (((i + k : Nat) : Int) < (L : Int)) by omega), g0, gO, gb, e1, e2, e3, e4, e5, e6, cellsI_set, cellsI_dat]
    exact (if_pos h1).trans ((if_pos trivial).trans ((if_pos h1).trans ((if_pos h2).trans q)))
theorem mulout_loop {a b : List Int} (ha : Dg a) (hb : Dg b) (hL : a.length + b.length ≤ 500) : ∀ (r f i : Nat) (O : List Int), i + r = a.length → r < f → O.length = a.length + b.length → Dg O → vv O = vv (a.take i) * vv b → ∃ (O' : List Int), (F47_l5 600).L f (rowsI b, rowsI a, a.length + b.length, (a.length : Int), (i : Int), cellsI O) = some (a.length + b.length, cellsI O') ∧ O'.length = a.length + b.length ∧ Dg O' ∧ vv O' = vv a * vv b
  | 0, f, i, O, hi, hf, hl, hd, hv => by
    obtain ⟨f, rfl⟩ : ∃ f', f = f' + 1 := ⟨f - 1, by omega⟩
    obtain rfl : i = a.length := by omega
    rw [List.take_length] at hv
    refine ⟨O, ?_, hl, hd, hv⟩
    show (F47_l5 600).b _ _ ((F47_l5 600).L f) some = _
    generalize (F47_l5 600).L f = Lf
    simp only [F47_l5, decide_eq_false (show ¬ ((a.length : Int) < (a.length : Int)) by omega), cellsI_dat]
  | r + 1, f, i, O, hi, hf, hl, hd, hv => by
    obtain ⟨f, rfl⟩ : ∃ f', f = f' + 1 := ⟨f - 1, by omega⟩
    have hia : i < a.length := by omega
    have rx := ha.get i hia
    have ta := vv_take_succ a i hia
    have ga : ((rowsI a)[((i : Int)).toNat]? : Option (List AV)) = some [AV.v (.int .i64 a[i])] := by rw [show ((i : Int)).toNat = i by omega, rowsI_get _ i hia]
    obtain ⟨X, hX⟩ := Int.eq_ofNat_of_zero_le rx.1
    rw [hX] at ga ta rx
    have hlt := vv_lt (ha.take (i + 1))
    rw [ta, List.length_take, Nat.min_eq_left (by omega)] at hlt
    obtain ⟨O1, C1, q, q1, q2, q3, q4⟩ := mulin_loop (a := a) hb (a.length + b.length) i X (by omega) hL (by omega) (a.length : Int) (i : Int) (vv O) (b.length + 1) 600 0 O 0 (by omega) (by omega) hl hd (by omega) (by simp [vv])
    have q' : F47_d15 600 (rowsI b, rowsI a, a.length + b.length, (i : Int), (X : Int), 0, (a.length : Int), (i : Int), ((b.length + 1 : Nat) : Int), 0, cellsI O) = some (rowsI b, rowsI a, a.length + b.length, (a.length : Int), (i : Int), cellsI O1) := q
    have hv1 : vv O1 = vv (a.take (i + 1)) * vv b := by
      rw [hv] at q4
      rw [Int.toNat_natCast] at ta hlt
      have e1 : vv (a.take i) * vv b + Bs ^ i * (X * vv b) = vv (a.take (i + 1)) * vv b := by
        rw [ta, Nat.add_mul, Nat.mul_assoc]
      rw [e1] at q4
      have k1 : vv (a.take (i + 1)) * vv b < Bs ^ (i + (b.length + 1)) := by
        have k2 := vv_lt hb
        rw [ta, show i + (b.length + 1) = (i + 1) + b.length by omega, Nat.pow_add]
        exact Nat.mul_lt_mul'' hlt k2
      rcases Nat.eq_zero_or_pos C1 with z | z
      · rw [z, Nat.mul_zero, Nat.add_zero] at q4; exact q4
      · exfalso
        have : Bs ^ (i + (b.length + 1)) * 1 ≤ Bs ^ (i + (b.length + 1)) * C1 := Nat.mul_le_mul_left _ z
        omega
    obtain ⟨O', r0, r1, r2, r3⟩ := mulout_loop ha hb hL r f (i + 1) O1 (by omega) (by omega) q1 q2 hv1
    refine ⟨O', ?_, r1, r2, r3⟩
    show (F47_l5 600).b _ _ ((F47_l5 600).L f) some = _
    generalize (F47_l5 600).L f = Lf at r0 ⊢
    have e1 : i64 ((b.length : Int) + 1) = ((b.length + 1 : Nat) : Int) := by rw [i64_id (by omega)]; omega
    have e2 : i64 ((i : Int) + 1) = ((i + 1 : Nat) : Int) := by rw [i64_id (by omega)]; omega
    have h0 : (0 : Int) ≤ (i : Int) := by omega
    simp only [F47_l5, decide_eq_true (show ((i : Int) < (a.length : Int)) by omega), ga, List.getElem?_cons_zero, rowsI_len, e1, e2, cellsI_dat, q']
    exact (if_pos h0).trans ((if_pos trivial).trans r0)
theorem mul_ok {a b : List Int} (ha : Dg a) (hb : Dg b) (hL : a.length + b.length ≤ 500) : F47_d 600 (rowsI a, rowsI b) = some (rowsI (nf (vv a * vv b))) := by
  have e1 : i64 ((a.length : Int) + (b.length : Int)) = ((a.length + b.length : Nat) : Int) := by rw [i64_id (by omega)]; omega
  obtain ⟨O, r0, r1, r2, r3⟩ := mulout_loop ha hb hL a.length 600 0 (List.replicate (a.length + b.length) 0) (by omega) (by omega) (by simp) (Dg.zeros _) (by rw [vv_zeros]; simp [vv])
  have L : F47_d5 600 (rowsI b, rowsI a, a.length + b.length, (a.length : Int), 0, cellsI (List.replicate (a.length + b.length) 0)) = some (a.length + b.length, cellsI O) := r0
  have T := trim_ok (xs := O) (by omega)
  rw [trim_nf r2, r3] at T
  have h1 : (0 : Int) ≤ ((a.length + b.length : Nat) : Int) ∧ ((a.length + b.length : Nat) : Int) ≤ ((a.length + b.length : Nat) : Int) ∧ (((a.length + b.length : Nat) : Int)).toNat * 8 ≤ maxBytes := by
    have : 100000 ≤ maxBytes := by decide
    omega
  have h2 : (a.length + b.length) * 1 ≤ (cellsI O).length := by rw [cellsI_len]; omega
  simp only [F47_d, FSpec.d, F47_s, rowsI_len, e1, Int.toNat_natCast, zeros_cells, cellsI_dat, L, chunks_all O _ r1, T]
  exact (if_pos h1).trans (if_pos h2)
theorem div_step {A Q d R a q r : Nat} (h1 : A = Q * d + R) (h2 : R * 1073741824 + a = q * d + r) : a + 1073741824 * A = (q + 1073741824 * Q) * d + r := by
  rw [h1, Nat.mul_add, Nat.add_mul, Nat.mul_assoc]
  omega
theorem div_loop {a : List Int} (ha : Dg a) (d : Nat) (hd : 1 ≤ d ∧ d ≤ 1073741824) (hl : a.length ≤ 500) : ∀ (k f : Nat) (O : List Int) (R : Nat), k ≤ a.length → k < f → O.length = a.length → Dg O → R < d → vv (a.drop k) = vv (O.drop k) * d + R → ∃ (O' : List Int) (R' : Nat), (F49_l6 600).L f (rowsI a, (d : Int), a.length, (R : Int), (k : Int) - 1, cellsI O) = some (a.length, (R' : Int), cellsI O') ∧ O'.length = a.length ∧ Dg O' ∧ R' < d ∧ vv a = vv O' * d + R'
  | 0, f, O, R, hk, hf, hO, hg, hR, hv => by
    obtain ⟨f, rfl⟩ : ∃ f', f = f' + 1 := ⟨f - 1, by omega⟩
    refine ⟨O, R, ?_, hO, hg, hR, hv⟩
    show (F49_l6 600).b _ _ ((F49_l6 600).L f) some = _
    generalize (F49_l6 600).L f = Lf
    simp only [F49_l6, decide_eq_false (show ¬ (((0 : Nat) : Int) - 1 ≥ 0) by omega), cellsI_dat]
  | k + 1, f, O, R, hk, hf, hO, hg, hR, hv => by
    obtain ⟨f, rfl⟩ : ∃ f', f = f' + 1 := ⟨f - 1, by omega⟩
    have hka : k < a.length := by omega
    have hkO : k < O.length := by omega
    have rx := ha.get k hka
    have va := vv_drop a k hka
    have ga : ((rowsI a)[((k : Int)).toNat]? : Option (List AV)) = some [AV.v (.int .i64 a[k])] := by rw [show ((k : Int)).toNat = k by omega, rowsI_get _ k hka]
    obtain ⟨x, hx⟩ := Int.eq_ofNat_of_zero_le rx.1
    rw [hx] at ga va rx
    rw [Int.toNat_natCast] at va
    have hq : (R * 1073741824 + x) / d < 1073741824 := by
      rw [Nat.div_lt_iff_lt_mul (by omega)]
      have : (R + 1) * 1073741824 ≤ d * 1073741824 := Nat.mul_le_mul_right _ hR
      omega
    have hdm := Nat.div_add_mod (R * 1073741824 + x) d
    have hm := Nat.mod_lt (R * 1073741824 + x) (show 0 < d by omega)
    have e2 : (((R * 1073741824 + x : Nat) : Int)).tmod (d : Int) = (((R * 1073741824 + x) % d : Nat) : Int) := by rw [Int.tmod_eq_emod_of_nonneg (by omega)]; simp
    have e3 : (((R * 1073741824 + x : Nat) : Int)).tdiv (d : Int) = (((R * 1073741824 + x) / d : Nat) : Int) := by rw [Int.tdiv_eq_ediv_of_nonneg (by omega)]; simp
    generalize hQ : (R * 1073741824 + x) / d = q at *
    generalize hMm : (R * 1073741824 + x) % d = m at *
    clear hQ hMm
    have hset : (O.set k (q : Int)).drop k = (q : Int) :: O.drop (k + 1) := by
      rw [List.drop_eq_getElem_cons (by simpa using hkO)]
      congr 1
      · simp
      · rw [List.drop_set_of_lt (by omega)]
    have hstep : vv (a.drop k) = vv ((O.set k (q : Int)).drop k) * d + m := by
      rw [va, hset]
      show _ = (((q : Int)).toNat + 1073741824 * vv (O.drop (k + 1))) * d + _
      rw [Int.toNat_natCast]
      exact div_step hv (by rw [Nat.mul_comm q]; exact hdm.symm)
    obtain ⟨O', R', r0, r1, r2, r3, r4⟩ := div_loop ha d hd hl k f (O.set k (q : Int)) m (by omega) (by omega) (by simpa using hO) (hg.set _ (by omega)) hm hstep
    refine ⟨O', R', ?_, r1, r2, r3, r4⟩
    clear hstep hset hdm hv va
    show (F49_l6 600).b _ _ ((F49_l6 600).L f) some = _
    generalize (F49_l6 600).L f = Lf at r0 ⊢
    have e0 : (((k + 1 : Nat) : Int) - 1) = (k : Int) := by omega
    have e1 : bOr .i64 (shL .i64 (R : Int) (30 : Int)) (x : Int) = ((R * 1073741824 + x : Nat) : Int) := by rw [or30 (by omega) (by omega)]; omega
    have e4 : i64 ((q : Int)) = (q : Int) := i64_id (by omega)
    have e5 : i64 ((k : Int) - 1) = (k : Int) - 1 := i64_id (by omega)
    have g0 : ((0 + ((k : Int)).toNat) * 1) = k := by omega
    have h0 : (0 : Int) ≤ (k : Int) := by omega
    have h1 : (0 : Int) ≤ (k : Int) ∧ (k : Int) < (a.length : Int) := by omega
    have h2 : k + 1 ≤ (cellsI O).length := by rw [cellsI_len]; omega
    have hd0 : ¬ ((d : Int) = 0) := by omega
    rw [e0]
    simp only [F49_l6, decide_eq_true (show ((k : Int) ≥ 0) by omega), ga, List.getElem?_cons_zero, g0, e1, e2, e3, e4, e5, cellsI_set, cellsI_dat]
    exact (if_pos h0).trans ((if_pos trivial).trans ((if_neg hd0).trans ((if_pos h1).trans ((if_pos h2).trans ((if_neg hd0).trans r0)))))
theorem div_ok {a : List Int} (ha : Dg a) (hl : a.length ≤ 500) {d : Int} (hd : 1 ≤ d ∧ d ≤ 1073741824) : F49_d 600 (rowsI a, d) = some (rowsI (nf (vv a / d.toNat)), ((vv a % d.toNat : Nat) : Int)) := by
  obtain ⟨D, rfl⟩ := Int.eq_ofNat_of_zero_le (show 0 ≤ d by omega)
  rw [Int.toNat_natCast]
  have e1 : i64 ((a.length : Int) - 1) = (a.length : Int) - 1 := i64_id (by omega)
  obtain ⟨O, R, r0, r1, r2, r3, r4⟩ := div_loop ha D (by omega) hl a.length 600 (List.replicate a.length 0) 0 (by omega) (by omega) (by simp) (Dg.zeros _) (by omega) (by rw [List.drop_length, List.drop_of_length_le (by simp)]; simp [vv])
  have L : F49_d6 600 (rowsI a, (D : Int), a.length, 0, (a.length : Int) - 1, cellsI (List.replicate a.length 0)) = some (a.length, (R : Int), cellsI O) := r0
  have T := trim_ok (xs := O) (by omega)
  have hq : vv a / D = vv O := by rw [r4, Nat.mul_comm, Nat.mul_add_div (by omega), Nat.div_eq_of_lt r3, Nat.add_zero]
  have hr : vv a % D = R := by rw [r4, Nat.mul_comm, Nat.mul_add_mod, Nat.mod_eq_of_lt r3]
  rw [trim_nf r2, ← hq] at T
  have h1 : (0 : Int) ≤ (a.length : Int) ∧ (a.length : Int) ≤ (a.length : Int) ∧ ((a.length : Int)).toNat * 8 ≤ maxBytes := by
    have : 100000 ≤ maxBytes := by decide
    omega
  have h2 : a.length * 1 ≤ (cellsI O).length := by rw [cellsI_len]; omega
  rw [hr]
  simp only [F49_d, FSpec.d, F49_s, rowsI_len, e1, Int.toNat_natCast, zeros_cells, cellsI_dat, L, chunks_all O _ r1, T]
  exact (if_pos h1).trans (if_pos h2)
theorem divs_ok {a : List Int} (ha : VN a) {d : Int} (hd : 1 ≤ d ∧ d < 1073741824) : F19_d 600 (rowsI a, d) = some (rowsI (nf (vv a / d.toNat)), ((vv a % d.toNat : Nat) : Int), 0) := by
  have h1 := ha.1
  simp only [F19_d, FSpec.d, F19_s, valid_ok ha, Bool.not_true, decide_eq_false (show ¬ d < 1 by omega), decide_eq_false (show ¬ d ≥ 1073741824 by omega), div_ok ha.2.1 (by omega) (show 1 ≤ d ∧ d ≤ 1073741824 by omega)]
theorem mulx_ok {a b : List Int} (ha : VN a) (hb : VN b) : F13_d 600 (rowsI a, rowsI b) = some (limR (vv a * vv b)) := by
  have h1 := ha.1
  have h2 := hb.1
  have hlen : (nf (vv a * vv b)).length ≤ 590 := by
    have k := (nf_len 128 (vv a * vv b)).2 (by
      rw [show 128 = 64 + 64 from rfl, Nat.pow_add]
      exact Nat.mul_lt_mul'' ha.lt hb.lt)
    omega
  have hl := lim_ok hlen (nf_dg _)
  rw [vv_nf] at hl
  simp only [F13_d, FSpec.d, F13_s, both_ok ha hb, Bool.not_true, mul_ok ha.2.1 hb.2.1 (by omega), hl]
end Go.Proofs.YtlpebecbipjoaaaGreatDoor
