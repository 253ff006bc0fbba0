/- Steim, the plain law: the document's Encode. -/
import Derived.Test.YteplhedodcaljaaStM
namespace Go.Proofs.Yteplhedodcaljaa
open Go.RowKit
set_option linter.unusedVariables false
set_option linter.unusedSimpArgs false
set_option linter.unnecessarySimpa false
theorem rsetp_ok {a v : Int} {i : Nat} (hi : i ≤ 15) (ha : 0 ≤ a) (hx : a * 2 ^ (32 - 2 * i) ≤ 4294967295) (hv : 0 ≤ v ∧ v ≤ 3) (hb : (4 * a + v) * 2 ^ (30 - 2 * i) ≤ 4294967295) : F46_d 600 (a * 2 ^ (32 - 2 * i), (i : Int), v) = some ((4 * a + v) * 2 ^ (30 - 2 * i), 0) := by
  have q := setp_ok hi ha hx hv hb
  have h0 : 0 ≤ a * 2 ^ (32 - 2 * i) := Int.mul_nonneg ha (Int.le_of_lt (Int.pow_pos (by omega)))
  have i1 : F60_d 600 (v, 0, 3) = some true := in_yes hv
  have c : ¬ (30 - 2 * (i : Int) < 0) := by omega
  simp only [F32_d, FSpec.d, F32_s, shift_ok ⟨h0, hx⟩ (show 0 ≤ (i : Int) ∧ (i : Int) ≤ 15 by omega), Bool.not_true, i1, c, if_false] at q
  have e1 : i64 (2 * (i : Int)) = 2 * (i : Int) := i64_id (by omega)
  have e2 : i64 (30 - 2 * (i : Int)) = 30 - 2 * (i : Int) := i64_id (by omega)
  have e3 : IntKind.u64.wrap (30 - 2 * (i : Int)) = 30 - 2 * (i : Int) := u64_id (by omega)
  simp only [F46_d, FSpec.d, F46_s, rin_yes ⟨h0, hx⟩, rin_yes (show 0 ≤ (i : Int) ∧ (i : Int) ≤ 15 by omega), rin_yes hv, Bool.not_true, e1, e2, e3, c, if_false]
  exact q
theorem bnd_ok {a : Int} {i : Nat} (hi : 1 ≤ i ∧ i ≤ 15) (ha : 0 ≤ a ∧ a < 2 ^ (2 * i - 2)) : a * 2 ^ (32 - 2 * i) ≤ 1073741824 ∧ ∀ v : Int, 0 ≤ v ∧ v ≤ 3 → (4 * a + v) * 2 ^ (30 - 2 * i) ≤ 4294967295 := by
  have hpp : (2 : Int) ^ (2 * i - 2) * 2 ^ (32 - 2 * i) = 1073741824 := by
    rw [← Int.pow_add, show 2 * i - 2 + (32 - 2 * i) = 30 by omega]
    rfl
  have hp : (1 : Int) ≤ 2 ^ (32 - 2 * i) := Int.pow_pos (by omega)
  have b0 : (a + 1) * 2 ^ (32 - 2 * i) ≤ 1073741824 := by
    rw [← hpp]
    exact Int.mul_le_mul_of_nonneg_right (by omega) (by omega)
  have b1 : a * 2 ^ (32 - 2 * i) + 2 ^ (32 - 2 * i) ≤ 1073741824 := by
    rwa [Int.add_mul, Int.one_mul] at b0
  have hq : (2 : Int) ^ (32 - 2 * i) = 4 * 2 ^ (30 - 2 * i) := by
    rw [show 32 - 2 * i = (30 - 2 * i) + 2 by omega, Int.pow_add]
    omega
  have hp2 : (1 : Int) ≤ 2 ^ (30 - 2 * i) := Int.pow_pos (by omega)
  refine ⟨by omega, fun v hv => ?_⟩
  have h1 : (4 * a + v) * 2 ^ (30 - 2 * i) ≤ (4 * a + 3) * 2 ^ (30 - 2 * i) := Int.mul_le_mul_of_nonneg_right (by omega) (by omega)
  have h2 : (4 * a + 3) * 2 ^ (30 - 2 * i) = a * (4 * 2 ^ (30 - 2 * i)) + 3 * 2 ^ (30 - 2 * i) := by
    rw [Int.add_mul, Int.mul_comm 4 a, Int.mul_assoc]
  rw [hq] at b1
  generalize (4 * a + v) * 2 ^ (30 - 2 * i) = g1 at h1 ⊢
  generalize (4 * a + 3) * 2 ^ (30 - 2 * i) = g2 at h1 h2
  generalize a * (4 * 2 ^ (30 - 2 * i)) = g3 at h2 b1
  generalize (2 : Int) ^ (30 - 2 * i) = g4 at h2 b1 hp2
  omega
theorem rput_ok (s : ByteArray) (hs : s.size ≤ 900000) {n : Int} (hn : 0 ≤ n ∧ n ≤ 4294967295) : F47_d 600 (s, n) = some (s ++ strOfNums (be4 n), 0) := by
  simp only [F47_d, FSpec.d, F47_s, rput4 s hs hn]
theorem pad_nil : ∀ m : Nat, pad m [] = List.replicate m (0, 0)
  | 0 => rfl
  | m + 1 => by
    show (0, 0) :: pad m [] = _
    rw [pad_nil m, List.replicate_succ]
theorem hor_nil (a : Int) : ∀ m : Nat, hor a (pad m []) = a * 2 ^ (2 * m)
  | 0 => by show a = _; rw [Nat.mul_zero, Int.pow_zero, Int.mul_one]
  | m + 1 => by
    have ih := hor_nil (4 * a + 0) m
    show hor (4 * a + 0) (pad m []) = _
    rw [ih, show 2 * (m + 1) = 2 * m + 2 by omega, Int.pow_add, Int.add_zero, Int.mul_comm 4 a, Int.mul_assoc]
    congr 1
    omega
theorem set_snoc (B : List Int) (m : Nat) (v : Int) : (B ++ List.replicate (m + 1) 0).set B.length v = (B ++ [v]) ++ List.replicate m 0 := by
  rw [List.set_append_right _ _ (Nat.le_refl _), Nat.sub_self, List.replicate_succ, List.set_cons_zero, List.append_assoc]
  rfl
theorem fill_loop (rX : List (List AV)) (n k : Int) (s : ByteArray) : ∀ (m i f : Nat) (L : List Wo) (a : Int) (B : List Int), m < f → i + m = 16 → 1 ≤ i → (∀ w ∈ L, WOk w) → L.length ≤ 1000 → B.length = i → (0 ≤ a ∧ a < 2 ^ (2 * i - 2)) →
    (F21_l36 600).L f (rX, rowsW L, n, s, k, a * 2 ^ (32 - 2 * i), (i : Int), cellsI (B ++ List.replicate m 0)) = some (rX, rowsW (L.drop m), n, s, k, hor a (pad m L), cellsI (B ++ (pad m L).map (·.2)))
  | 0, i, f, L, a, B, hf, hi, h1, hL, hl, hB, ha => by
    obtain ⟨f, rfl⟩ : ∃ f', f = f' + 1 := ⟨f - 1, by omega⟩
    obtain rfl : i = 16 := by omega
    show (F21_l36 600).b _ _ ((F21_l36 600).L f) some = _
    have c : decide (((16 : Nat) : Int) < 16) = false := rfl
    have e : a * 2 ^ (32 - 2 * 16) = a := Int.mul_one a
    have e2 : hor a [] = a := rfl
    have e3 : List.replicate 0 (0 : Int) = [] := rfl
    simp only [F21_l36, c, e, List.drop_zero, pad, e2, e3, List.map_nil, List.append_nil, cellsI_dat]
  | m + 1, i, f, L, a, B, hf, hi, h1, hL, hl, hB, ha => by
    obtain ⟨f, rfl⟩ : ∃ f', f = f' + 1 := ⟨f - 1, by omega⟩
    have c1 : decide ((i : Int) < 16) = true := by rw [decide_eq_true_iff]; omega
    cases L with
    | nil =>
      have c2 : decide ((([] : List Wo).length : Int) > 0) = false := rfl
      have e1 : hor a (pad (m + 1) []) = a * 2 ^ (32 - 2 * i) := by rw [hor_nil, show 2 * (m + 1) = 32 - 2 * i by omega]
      have e2 : (pad (m + 1) []).map (·.2) = List.replicate (m + 1) (0 : Int) := by rw [pad_nil, List.map_replicate]
      show (F21_l36 600).b _ _ ((F21_l36 600).L f) some = _
      rw [e1, e2, List.drop_nil]
      simp only [F21_l36, c1, rowsW_len, c2, cellsI_dat]
    | cons w r =>
      obtain ⟨b1, b2⟩ := bnd_ok (a := a) (i := i) (by omega) ha
      have hok := hL w List.mem_cons_self
      have sp := rsetp_ok (a := a) (v := w.1) (i := i) (by omega) ha.1 (by omega) hok.1 (b2 _ hok.1)
      have ha2 : 0 ≤ 4 * a + w.1 ∧ 4 * a + w.1 < 2 ^ (2 * (i + 1) - 2) := by
        have hq : (2 : Int) ^ (2 * (i + 1) - 2) = 4 * 2 ^ (2 * i - 2) := by
          rw [show 2 * (i + 1) - 2 = (2 * i - 2) + 2 by omega, Int.pow_add]
          omega
        have := hok.1
        rw [hq]
        omega
      have r1 := fill_loop rX n k s m (i + 1) f r (4 * a + w.1) (B ++ [w.2]) (by omega) (by omega) (by omega) (fun x hx => hL x (List.mem_cons_of_mem _ hx)) (by simp at hl; omega) (by simp; omega) ha2
      have e : 32 - 2 * (i + 1) = 30 - 2 * i := by omega
      rw [e] at r1
      have e2 : hor a (pad (m + 1) (w :: r)) = hor (4 * a + w.1) (pad m r) := rfl
      have e3 : B ++ (pad (m + 1) (w :: r)).map (·.2) = B ++ [w.2] ++ (pad m r).map (·.2) := by
        rw [List.append_assoc]; rfl
      rw [e2, e3]
      show (F21_l36 600).b _ _ ((F21_l36 600).L f) some = _
      obtain ⟨Lf, hLf⟩ : ∃ Lf, Lf = (F21_l36 600).L f := ⟨_, rfl⟩
      rw [← hLf] at r1 ⊢
      have c2 : decide (((w :: r).length : Int) > 0) = true := by rw [decide_eq_true_iff]; simp
      have z0 : (0 : Int) ≤ 0 := by omega
      have t0 : (0 : Int).toNat = 0 := rfl
      have t1 : (1 : Int).toNat = 1 := rfl
      have c3 : (0 : Int) ≤ 1 ∧ (1 : Int) ≤ ((w :: r).length : Int) := by rw [List.length_cons]; omega
      have g0 : (rowsW (w :: r))[0]? = some [AV.v (.int .i64 w.1), AV.v (.int .i64 w.2)] := rfl
      have d0 : ([AV.v (.int .i64 w.1), AV.v (.int .i64 w.2)].drop 0)[0]? = some (AV.v (.int .i64 w.1)) := rfl
      have d1 : ([AV.v (.int .i64 w.1), AV.v (.int .i64 w.2)].drop 1)[0]? = some (AV.v (.int .i64 w.2)) := rfl
      have g1 : (rowsW (w :: r)).drop 1 = rowsW r := rfl
      have c4 : (0 : Int) ≤ (i : Int) ∧ (i : Int) < 16 := by omega
      have e5 : 0 + i * 1 = i := by omega
      have hlen : i + 1 ≤ (cellsI (B ++ List.replicate (m + 1) 0)).length := by rw [cellsI_len]; simp; omega
      have e6 : i64 ((i : Int) + 1) = ((i + 1 : Nat) : Int) := by rw [i64_id (by omega)]; omega
      have st := set_snoc B m w.2
      rw [hB] at st
      have dr : (w :: r : List Wo).drop (m + 1) = r.drop m := rfl
      rw [dr]
      simp only [F21_l36, c1, rowsW_len, c2, z0, t0, t1, c3, c4, and_self, if_true, g0, d0, d1, sp, Int.toNat_natCast, e5, hlen, g1, e6, cellsI_set, st, cellsI_dat]
      exact r1
theorem lay_loop (rX l : List (List AV)) (n k : Int) (C : List Int) (hC : C.length = 16) (hr : ∀ x ∈ C, 0 ≤ x ∧ x ≤ 4294967295) : ∀ (m i f : Nat) (bs : List Int), m < f → i + m = 16 → bs.length ≤ 10000 + 4 * i →
    (F21_l47 600).L f (rX, l, n, strOfNums bs, k, (i : Int), cellsI C) = some (rX, l, n, strOfNums (bs ++ (C.drop i).flatMap be4), k)
  | 0, i, f, bs, hf, hi, hb => by
    obtain ⟨f, rfl⟩ : ∃ f', f = f' + 1 := ⟨f - 1, by omega⟩
    obtain rfl : i = 16 := by omega
    show (F21_l47 600).b _ _ ((F21_l47 600).L f) some = _
    have c : decide (((16 : Nat) : Int) < 16) = false := rfl
    have e : C.drop 16 = [] := List.drop_of_length_le (by omega)
    rw [e, List.flatMap_nil, List.append_nil]
    simp only [F21_l47, c]
  | m + 1, i, f, bs, hf, hi, hb => by
    obtain ⟨f, rfl⟩ : ∃ f', f = f' + 1 := ⟨f - 1, by omega⟩
    have hlt : i < C.length := by omega
    have r1 := lay_loop rX l n k C hC hr m (i + 1) f (bs ++ be4 C[i]) (by omega) (by omega) (by rw [List.length_append]; have : (be4 C[i]).length = 4 := rfl; omega)
    have c1 : decide ((i : Int) < 16) = true := by rw [decide_eq_true_iff]; omega
    have c4 : (0 : Int) ≤ (i : Int) ∧ (i : Int) < 16 := by omega
    have e5 : 0 + i * 1 = i := by omega
    have pu := rput_ok (strOfNums bs) (by rw [strOf_size]; omega) (hr _ (List.getElem_mem hlt))
    rw [← strOf_app] at pu
    have e6 : i64 ((i : Int) + 1) = ((i + 1 : Nat) : Int) := by rw [i64_id (by omega)]; omega
    rw [List.drop_eq_getElem_cons hlt, List.flatMap_cons, ← List.append_assoc]
    show (F21_l47 600).b _ _ ((F21_l47 600).L f) some = _
    obtain ⟨Lf, hLf⟩ : ∃ Lf, Lf = (F21_l47 600).L f := ⟨_, rfl⟩
    rw [← hLf] at r1 ⊢
    simp only [F21_l47, c1, c4, and_self, if_true, Int.toNat_natCast, e5, cellsI_get C i hlt, pu, e6, cellsI_dat]
    exact r1
theorem zero16 : [AV.v (.int .i64 0), AV.v (.int .i64 0), AV.v (.int .i64 0), AV.v (.int .i64 0), AV.v (.int .i64 0), AV.v (.int .i64 0), AV.v (.int .i64 0), AV.v (.int .i64 0), AV.v (.int .i64 0), AV.v (.int .i64 0), AV.v (.int .i64 0), AV.v (.int .i64 0), AV.v (.int .i64 0), AV.v (.int .i64 0), AV.v (.int .i64 0), AV.v (.int .i64 0)].map dat0 = cellsI ([0] ++ List.replicate 15 0) := rfl
theorem first16 (a b : Int) : [AV.v (.int .i64 0), AV.v (.int .i64 a), AV.v (.int .i64 b), AV.v (.int .i64 0), AV.v (.int .i64 0), AV.v (.int .i64 0), AV.v (.int .i64 0), AV.v (.int .i64 0), AV.v (.int .i64 0), AV.v (.int .i64 0), AV.v (.int .i64 0), AV.v (.int .i64 0), AV.v (.int .i64 0), AV.v (.int .i64 0), AV.v (.int .i64 0), AV.v (.int .i64 0)].map dat0 = cellsI ([0, a, b] ++ List.replicate 13 0) := rfl
theorem pad_rng (m : Nat) {L : List Wo} (hL : ∀ w ∈ L, WOk w) : ∀ x ∈ (pad m L).map (·.2), 0 ≤ x ∧ x ≤ 4294967295 := fun x hx => by
  obtain ⟨w, hw, rfl⟩ := List.mem_map.1 hx
  exact (pad_ok m L hL w hw).2
theorem renc_loop (rX : List (List AV)) (n : Nat) (hn : n ≤ 8) : ∀ (j k f : Nat) (L : List Wo) (bs : List Int), j < f → k + j = n → 1 ≤ k → (∀ w ∈ L, WOk w) → L.length ≤ 1000 → bs.length ≤ 64 * k →
    (F21_l19 600).L f (rX, rowsW L, (n : Int), strOfNums bs, (k : Int)) = some (strOfNums (bs ++ (allw j L).flatMap be4))
  | 0, k, f, L, bs, hf, hk, h1, hL, hl, hb => by
    obtain ⟨f, rfl⟩ : ∃ f', f = f' + 1 := ⟨f - 1, by omega⟩
    show (F21_l19 600).b _ _ ((F21_l19 600).L f) some = _
    have c : decide ((k : Int) < (n : Int)) = false := by rw [decide_eq_false_iff_not]; omega
    simp only [F21_l19, c, allw, List.flatMap_nil, List.append_nil]
  | j + 1, k, f, L, bs, hf, hk, h1, hL, hl, hb => by
    obtain ⟨f, rfl⟩ : ∃ f', f = f' + 1 := ⟨f - 1, by omega⟩
    have q := fill_loop rX (n : Int) (k : Int) (strOfNums bs) 15 1 600 L 0 [0] (by omega) (by omega) (by omega) hL hl rfl (by simp)
    rw [Int.zero_mul] at q
    replace q : (F21_l36 600).L 600 (rX, rowsW L, (n : Int), strOfNums bs, (k : Int), 0, 1, cellsI ([0] ++ List.replicate 15 0)) = _ := q
    have hh := hor_rng 15 (pad 15 L) (pad_len _ _) (pad_ok 15 L hL)
    have es : ([0] ++ (pad 15 L).map (·.2) : List Int).set 0 (hor 0 (pad 15 L)) = hor 0 (pad 15 L) :: (pad 15 L).map (·.2) := rfl
    have hr : ∀ x ∈ hor 0 (pad 15 L) :: (pad 15 L).map (·.2), 0 ≤ x ∧ x ≤ 4294967295 := fun x hx => by
      rcases List.mem_cons.1 hx with rfl | hx
      · omega
      · exact pad_rng 15 hL x hx
    have lay := lay_loop rX (rowsW (L.drop 15)) (n : Int) (k : Int) (hor 0 (pad 15 L) :: (pad 15 L).map (·.2)) (by simp [pad_len]) hr 16 0 600 bs (by omega) (by omega) (by omega)
    rw [List.drop_zero] at lay
    replace lay : (F21_l47 600).L 600 (rX, rowsW (L.drop 15), (n : Int), strOfNums bs, (k : Int), 0, cellsI (hor 0 (pad 15 L) :: (pad 15 L).map (·.2))) = _ := lay
    have e5 : bs ++ (hor 0 (pad 15 L) :: (pad 15 L).map (·.2)).flatMap be4 ++ (allw j (L.drop 15)).flatMap be4 = bs ++ (allw (j + 1) L).flatMap be4 := by
      simp only [allw, List.flatMap_cons, List.flatMap_append, List.append_assoc]
    have hl16 : ((hor 0 (pad 15 L) :: (pad 15 L).map (·.2)).flatMap be4).length = 64 := by rw [fm4_len]; simp [pad_len]
    have r1 := renc_loop rX n hn j (k + 1) f (L.drop 15) (bs ++ (hor 0 (pad 15 L) :: (pad 15 L).map (·.2)).flatMap be4) (by omega) (by omega) (by omega) (fun w hw => hL w (List.mem_of_mem_drop hw)) (by simp; omega) (by rw [List.length_append, hl16]; omega)
    rw [e5] at r1
    have c1 : decide ((k : Int) < (n : Int)) = true := by rw [decide_eq_true_iff]; omega
    have m0 : ((k : Int) == 0) = false := by rw [beq_eq_false_iff_ne]; omega
    have c2 : 0 + 1 ≤ (cellsI ([0] ++ (pad 15 L).map (·.2))).length := by rw [cellsI_len]; simp
    have e6 : i64 ((k : Int) + 1) = ((k + 1 : Nat) : Int) := by rw [i64_id (by omega)]; omega
    show (F21_l19 600).b _ _ ((F21_l19 600).L f) some = _
    obtain ⟨Lf, hLf⟩ : ∃ Lf, Lf = (F21_l19 600).L f := ⟨_, rfl⟩
    rw [← hLf] at r1 ⊢
    simp only [F21_l19, c1, m0, zero16, F21_d36, q, c2, if_true, cellsI_set, es, cellsI_dat, F21_d47, lay, e6]
    exact r1
/-- Both packages' Encode. -/
theorem renc_ok (X : List Int) (hl : X.length ≤ 500) (h0 : X ≠ []) (hX : ∀ x ∈ X, Smp x) (hn : nfr (wX X).length ≤ 8) : F21_d 600 (rowsI X) = some (FS (nfr (wX X).length) (lX X), 0) := by
  have hp : 0 < X.length := List.length_pos_iff.2 h0
  have hwp := wX_pos h0
  have hw := (wX_len X).1
  have c : ((X.length : Int) == 0) = false := by rw [beq_eq_false_iff_ne]; omega
  have hall := (all_iff X).2 hX
  have f1 := rFrames_ok X hl
  have e0 : frI (wX X).length = (nfr (wX X).length : Int) := if_neg (by omega)
  rw [hall, e0] at f1
  simp only [if_true] at f1
  have hn1 : 1 ≤ nfr (wX X).length := by unfold nfr; omega
  obtain ⟨n, hnn⟩ : ∃ n, n + 1 = nfr (wX X).length := ⟨nfr (wX X).length - 1, by omega⟩
  rw [← hnn] at f1 hn ⊢
  have c2 : decide (((n + 1 : Nat) : Int) > 8) = false := by rw [decide_eq_false_iff_not]; omega
  have hLok := lX_ok hX
  have hwok : ∀ w ∈ wX X, WOk w := fun w hw => hLok w (List.mem_cons_of_mem _ (List.mem_cons_of_mem _ hw))
  have hl1 : X.length - 1 < X.length := by omega
  have f0 : ∀ x, Smp x → Fit32 x := fun x h => by unfold Smp at h; unfold Fit32; omega
  have w0 := rwrap32 (f0 _ (hX _ (List.getElem_mem hp)))
  have w1 := rwrap32 (f0 _ (hX _ (List.getElem_mem hl1)))
  have eh : X.headD 0 = X[0] := by cases X with | nil => exact absurd rfl h0 | cons a r => rfl
  have el : X.getLastD 0 = X[X.length - 1] := by
    rw [List.getLastD_eq_getLast?, List.getLast?_eq_getElem?, List.getElem?_eq_getElem hl1]; rfl
  rw [← eh] at w0
  rw [← el] at w1
  have g0 := rowsI_get X 0 hp
  have g1 := rowsI_get X (X.length - 1) hl1
  rw [← eh] at g0
  rw [← el] at g1
  have q := fill_loop (rowsI X) ((n + 1 : Nat) : Int) 0 (⟨#[]⟩ : ByteArray) 13 3 600 (wX X) 0 [0, X.headD 0 % 4294967296, X.getLastD 0 % 4294967296] (by omega) (by omega) (by omega) hwok (by omega) rfl (by simp)
  rw [Int.zero_mul] at q
  replace q : (F21_l36 600).L 600 (rowsI X, rowsW (wX X), ((n + 1 : Nat) : Int), (⟨#[]⟩ : ByteArray), 0, 0, 3, cellsI ([0, X.headD 0 % 4294967296, X.getLastD 0 % 4294967296] ++ List.replicate 13 0)) = _ := q
  have hh := hor_rng 15 (pad 15 (lX X)) (pad_len _ _) (pad_ok 15 _ hLok)
  have ehor : hor 0 (pad 13 (wX X)) = hor 0 (pad 15 (lX X)) := rfl
  have es : ([0, X.headD 0 % 4294967296, X.getLastD 0 % 4294967296] ++ (pad 13 (wX X)).map (·.2) : List Int).set 0 (hor 0 (pad 15 (lX X))) = hor 0 (pad 15 (lX X)) :: (pad 15 (lX X)).map (·.2) := rfl
  rw [ehor] at q
  have hr : ∀ x ∈ hor 0 (pad 15 (lX X)) :: (pad 15 (lX X)).map (·.2), 0 ≤ x ∧ x ≤ 4294967295 := fun x hx => by
    rcases List.mem_cons.1 hx with rfl | hx
    · omega
    · exact pad_rng 15 hLok x hx
  have lay := lay_loop (rowsI X) (rowsW ((wX X).drop 13)) ((n + 1 : Nat) : Int) 0 (hor 0 (pad 15 (lX X)) :: (pad 15 (lX X)).map (·.2)) (by simp [pad_len]) hr 16 0 600 [] (by omega) (by omega) (by simp)
  rw [List.drop_zero, List.nil_append] at lay
  replace lay : (F21_l47 600).L 600 (rowsI X, rowsW ((wX X).drop 13), ((n + 1 : Nat) : Int), (⟨#[]⟩ : ByteArray), 0, 0, cellsI (hor 0 (pad 15 (lX X)) :: (pad 15 (lX X)).map (·.2))) = _ := lay
  have hl16 : ((hor 0 (pad 15 (lX X)) :: (pad 15 (lX X)).map (·.2)).flatMap be4).length = 64 := by rw [fm4_len]; simp [pad_len]
  have r1 := renc_loop (rowsI X) (n + 1) hn n 1 599 ((wX X).drop 13) ((hor 0 (pad 15 (lX X)) :: (pad 15 (lX X)).map (·.2)).flatMap be4) (by omega) (by omega) (by omega) (fun w hw => hwok w (List.mem_of_mem_drop hw)) (by simp; omega) (by omega)
  have eF : strOfNums ((hor 0 (pad 15 (lX X)) :: (pad 15 (lX X)).map (·.2)).flatMap be4 ++ (allw n ((wX X).drop 13)).flatMap be4) = FS (n + 1) (lX X) := by
    unfold FS
    rw [← List.flatMap_append]
    rfl
  rw [eF] at r1
  have c3 : decide ((0 : Int) < ((n + 1 : Nat) : Int)) = true := by rw [decide_eq_true_iff]; omega
  have z0 : (0 : Int) ≤ 0 := by omega
  have t0 : (0 : Int).toNat = 0 := rfl
  have e1 : i64 ((X.length : Int) - 1) = ((X.length - 1 : Nat) : Int) := by rw [i64_id (by omega)]; omega
  have z1 : (0 : Int) ≤ ((X.length - 1 : Nat) : Int) := by omega
  have c4 : 0 + 1 ≤ (cellsI ([0, X.headD 0 % 4294967296, X.getLastD 0 % 4294967296] ++ (pad 13 (wX X)).map (·.2))).length := by rw [cellsI_len]; simp
  have e6 : i64 ((0 : Int) + 1) = ((1 : Nat) : Int) := by kernel_rfl
  have st : (F21_l19 600).L 600 (rowsI X, rowsW (wX X), ((n + 1 : Nat) : Int), (⟨#[]⟩ : ByteArray), 0) = some (FS (n + 1) (lX X)) := by
    show (F21_l19 600).b _ _ ((F21_l19 600).L 599) some = _
    obtain ⟨Lf, hLf⟩ : ∃ Lf, Lf = (F21_l19 600).L 599 := ⟨_, rfl⟩
    rw [← hLf] at r1 ⊢
    simp only [F21_l19, c3, beq_self_eq_true, z0, t0, if_true, g0, List.getElem?_cons_zero, w0, rowsI_len, e1, z1, Int.toNat_natCast, g1, w1, first16, F21_d36, q, c4, cellsI_set, es, cellsI_dat, F21_d47, lay, e6]
    exact r1
  simp only [F21_d, FSpec.d, F21_s, rowsI_len, c, rall_any X (by omega), hall, Bool.not_true, f1, c2, rwords_ok X hl hX, F21_d19, st]
end Go.Proofs.Yteplhedodcaljaa
