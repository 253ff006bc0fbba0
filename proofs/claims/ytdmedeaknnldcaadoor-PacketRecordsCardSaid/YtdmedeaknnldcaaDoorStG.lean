/- Steim, the plain law: Encode's frames. -/
import Derived.Test.YtdmedeaknnldcaaDoorStF
namespace Go.Proofs.YtdmedeaknnldcaaDoor
open Go.RowKit
set_option linter.unusedVariables false
set_option linter.unusedSimpArgs false
set_option linter.unnecessarySimpa false
abbrev Wo := Int × Int
def WOk (w : Wo) : Prop := (0 ≤ w.1 ∧ w.1 ≤ 3) ∧ (0 ≤ w.2 ∧ w.2 ≤ 4294967295)
def pad : Nat → List Wo → List Wo
  | 0, _ => []
  | m + 1, L => L.headD (0, 0) :: pad m L.tail
def hor (a : Int) (ws : List Wo) : Int := ws.foldl (fun a w => 4 * a + w.1) a
theorem pad_len : ∀ (m : Nat) (L : List Wo), (pad m L).length = m
  | 0, _ => rfl
  | m + 1, L => by simp [pad, pad_len m]
theorem head_ok {L : List Wo} (h : ∀ w ∈ L, WOk w) : WOk (L.headD (0, 0)) := by
  cases L with
  | nil => exact ⟨⟨by decide, by decide⟩, by decide, by decide⟩
  | cons a r => exact h a List.mem_cons_self
theorem tail_ok {L : List Wo} (h : ∀ w ∈ L, WOk w) : ∀ w ∈ L.tail, WOk w := fun w hw => h w (List.mem_of_mem_tail hw)
theorem pad_ok : ∀ (m : Nat) (L : List Wo), (∀ w ∈ L, WOk w) → ∀ w ∈ pad m L, WOk w
  | 0, _, _, w, hw => by cases hw
  | m + 1, L, h, w, hw => by
    rcases List.mem_cons.1 hw with rfl | hw
    · exact head_ok h
    · exact pad_ok m L.tail (tail_ok h) w hw
theorem drop_tail : ∀ (m : Nat) (L : List Wo), L.tail.drop m = L.drop (m + 1)
  | m, [] => by simp
  | m, a :: r => rfl
theorem strOf_size (l : List Int) : (strOfNums l).size = l.length := strOfNums_size l
/-! One frame. -/
theorem enc_step (L : List Wo) (hL : ∀ w ∈ L, WOk w) (hl : L.length ≤ 1000) (out : ByteArray) (a : Int) (d : List Int) (hd : d.length ≤ 1000) (i : Nat) (hi : 1 ≤ i ∧ i ≤ 15) (ha : 0 ≤ a ∧ a < 2 ^ (2 * i - 2)) (x6 x7 : Int) (f : Nat) :
    (F23_l32 600).L (f + 1) (rowsW L, out, a * 2 ^ (32 - 2 * i), strOfNums d, (i : Int), x6, x7) = (F23_l32 600).L f (rowsW L.tail, out, (4 * a + (L.headD (0, 0)).1) * 2 ^ (30 - 2 * i), strOfNums (d ++ be4 (L.headD (0, 0)).2), ((i + 1 : Nat) : Int), x6, x7) := by
  show (F23_l32 600).b _ _ ((F23_l32 600).L f) some = _
  obtain ⟨Lf, hLf⟩ : ∃ Lf, Lf = (F23_l32 600).L f := ⟨_, rfl⟩
  rw [← hLf]
  have c1 : decide ((i : Int) < 16) = true := by rw [decide_eq_true_iff]; omega
  have e1 : i64 ((i : Int) + 1) = ((i + 1 : Nat) : Int) := by rw [i64_id (by omega)]; omega
  have hpp : (2 : Int) ^ (2 * i - 2) * 2 ^ (32 - 2 * i) = 1073741824 := by
    rw [← Int.pow_add, show 2 * i - 2 + (32 - 2 * i) = 30 by omega]
    rfl
  have hp : (1 : Int) ≤ 2 ^ (32 - 2 * i) := Int.pow_pos (by omega)
  have b0 : (a + 1) * 2 ^ (32 - 2 * i) ≤ 1073741824 := by
    rw [← hpp]
    exact Int.mul_le_mul_of_nonneg_right (by omega) (by omega)
  have b1 : a * 2 ^ (32 - 2 * i) + 2 ^ (32 - 2 * i) ≤ 1073741824 := by
    rwa [Int.add_mul, Int.one_mul] at b0
  have hq : (2 : Int) ^ (32 - 2 * i) = 4 * 2 ^ (30 - 2 * i) := by
    rw [show 32 - 2 * i = (30 - 2 * i) + 2 by omega, Int.pow_add]
    omega
  have hp2 : (1 : Int) ≤ 2 ^ (30 - 2 * i) := Int.pow_pos (by omega)
  have b2 : ∀ v : Int, 0 ≤ v ∧ v ≤ 3 → (4 * a + v) * 2 ^ (30 - 2 * i) ≤ 4294967295 := fun v hv => by
    have h1 : (4 * a + v) * 2 ^ (30 - 2 * i) ≤ (4 * a + 3) * 2 ^ (30 - 2 * i) := Int.mul_le_mul_of_nonneg_right (by omega) (by omega)
    have h2 : (4 * a + 3) * 2 ^ (30 - 2 * i) = a * (4 * 2 ^ (30 - 2 * i)) + 3 * 2 ^ (30 - 2 * i) := by
      rw [Int.add_mul, Int.mul_comm 4 a, Int.mul_assoc]
    have h3 : (2 : Int) ^ (30 - 2 * i) ≤ 1073741824 := two_le (b := 30) (by omega)
    rw [← hq] at h2
    rw [hq] at b1
    rw [hq] at h2
    generalize (4 * a + v) * 2 ^ (30 - 2 * i) = g1 at h1 ⊢
    generalize (4 * a + 3) * 2 ^ (30 - 2 * i) = g2 at h1 h2
    generalize a * (4 * 2 ^ (30 - 2 * i)) = g3 at h2 b1
    generalize (2 : Int) ^ (30 - 2 * i) = g4 at h2 h3
    omega
  have hok := head_ok hL
  have sp := setp_ok (a := a) (v := (L.headD (0, 0)).1) (i := i) (by omega) ha.1 (by omega) hok.1 (b2 _ hok.1)
  have pu := put4 (strOfNums d) (by rw [strOf_size]; omega) (n := (L.headD (0, 0)).2) hok.2
  rw [← strOf_app] at pu
  cases L with
  | nil =>
    have c2 : decide ((([] : List Wo).length : Int) > 0) = false := rfl
    simp only [List.headD_nil] at sp pu
    simp only [F23_l32, c1, rowsW_len, c2, sp, pu, e1]
    first | rfl | exact if_pos trivial
  | cons w r =>
    have c2 : decide (((w :: r).length : Int) > 0) = true := by rw [decide_eq_true_iff]; simp
    have z0 : (0 : Int) ≤ 0 := by omega
    have t0 : (0 : Int).toNat = 0 := rfl
    have t1 : (1 : Int).toNat = 1 := rfl
    have c3 : (0 : Int) ≤ 1 ∧ (1 : Int) ≤ ((w :: r).length : Int) := by rw [List.length_cons]; omega
    have g0 : (rowsW (w :: r))[0]? = some [AV.v (.int .i64 w.1), AV.v (.int .i64 w.2)] := rfl
    have g1 : (rowsW (w :: r)).drop 1 = rowsW r := rfl
    simp only [List.headD_cons] at sp pu
    simp only [F23_l32, c1, rowsW_len, c2, z0, t0, t1, c3, and_self, if_true, g0, List.getElem?_cons_zero, List.getElem?_cons_succ, g1, sp, pu, e1]
    first | rfl | exact if_pos trivial
theorem enc_loop (out : ByteArray) (x6 x7 : Int) : ∀ (m i f : Nat) (L : List Wo) (a : Int) (d : List Int), m < f → i + m = 16 → 1 ≤ i → (∀ w ∈ L, WOk w) → L.length ≤ 1000 → (0 ≤ a ∧ a < 2 ^ (2 * i - 2)) → d.length + 4 * m ≤ 100 →
    (F23_l32 600).L f (rowsW L, out, a * 2 ^ (32 - 2 * i), strOfNums d, (i : Int), x6, x7) = some (rowsW (L.drop m), out, hor a (pad m L), strOfNums (d ++ (pad m L).flatMap fun w => be4 w.2), x6, x7) ∧ (0 ≤ hor a (pad m L) ∧ hor a (pad m L) < 1073741824)
  | 0, i, f, L, a, d, hf, hi, h1, hL, hl, ha, hd => by
    obtain ⟨f, rfl⟩ : ∃ f', f = f' + 1 := ⟨f - 1, by omega⟩
    obtain rfl : i = 16 := by omega
    refine ⟨?_, ha.1, ha.2⟩
    show (F23_l32 600).b _ _ ((F23_l32 600).L f) some = _
    have c : decide (((16 : Nat) : Int) < 16) = false := rfl
    have e : a * 2 ^ (32 - 2 * 16) = a := Int.mul_one a
    have e2 : hor a [] = a := rfl
    simp only [F23_l32, c, e, e2, List.drop_zero, pad, List.flatMap_nil, List.append_nil]
  | m + 1, i, f, L, a, d, hf, hi, h1, hL, hl, ha, hd => by
    obtain ⟨f, rfl⟩ : ∃ f', f = f' + 1 := ⟨f - 1, by omega⟩
    rw [enc_step L hL hl out a d (by omega) i (by omega) ha x6 x7 f]
    have hok := head_ok hL
    have ha2 : 0 ≤ 4 * a + (L.headD (0, 0)).1 ∧ 4 * a + (L.headD (0, 0)).1 < 2 ^ (2 * (i + 1) - 2) := by
      have hq : (2 : Int) ^ (2 * (i + 1) - 2) = 4 * 2 ^ (2 * i - 2) := by
        rw [show 2 * (i + 1) - 2 = (2 * i - 2) + 2 by omega, Int.pow_add]
        omega
      have := hok.1
      rw [hq]
      omega
    have r := enc_loop out x6 x7 m (i + 1) f L.tail (4 * a + (L.headD (0, 0)).1) (d ++ be4 (L.headD (0, 0)).2) (by omega) (by omega) (by omega) (tail_ok hL) (by simp; omega) ha2 (by simp [be4]; omega)
    have e : 32 - 2 * (i + 1) = 30 - 2 * i := by omega
    rw [e] at r
    have e2 : hor a (pad (m + 1) L) = hor (4 * a + (L.headD (0, 0)).1) (pad m L.tail) := rfl
    rw [e2, ← drop_tail]
    simp only [pad, List.flatMap_cons, ← List.append_assoc]
    exact r
/-- The words of frames. -/
def allw : Nat → List Wo → List Int
  | 0, _ => []
  | n + 1, L => hor 0 (pad 15 L) :: ((pad 15 L).map (·.2) ++ allw n (L.drop 15))
def FS (n : Nat) (L : List Wo) : ByteArray := strOfNums ((allw n L).flatMap be4)
theorem be4_all (l : List Int) : ∀ x ∈ l.flatMap be4, 0 ≤ x ∧ x ≤ 255 := by
  intro x hx
  obtain ⟨n, -, h⟩ := List.mem_flatMap.1 hx
  exact be4_rng n x h
theorem allw_len : ∀ (n : Nat) (L : List Wo), (allw n L).length = 16 * n
  | 0, _ => rfl
  | n + 1, L => by
    simp only [allw, List.length_cons, List.length_append, List.length_map, pad_len, allw_len n]
    omega
theorem fm4_len (l : List Int) : (l.flatMap be4).length = 4 * l.length := by
  induction l with
  | nil => rfl
  | cons a r ih => rw [List.flatMap_cons, List.length_append, ih]; simp [be4]; omega
theorem FS_size (n : Nat) (L : List Wo) : (FS n L).size = 64 * n := by
  unfold FS
  rw [strOf_size, fm4_len, allw_len]
  omega
theorem out_frames (n : Nat) (hn : n ≤ 8) : ∀ (j k f : Nat) (L : List Wo) (bs : List Int), j < f → k + j = n → (∀ w ∈ L, WOk w) → L.length ≤ 1000 → bs.length ≤ 64 * k →
    (F23_l22 600).L f (rowsW L, strOfNums bs, (n : Int), (k : Int)) = some (strOfNums (bs ++ (allw j L).flatMap be4))
  | 0, k, f, L, bs, hf, hk, hL, hl, hb => by
    obtain ⟨f, rfl⟩ : ∃ f', f = f' + 1 := ⟨f - 1, by omega⟩
    show (F23_l22 600).b _ _ ((F23_l22 600).L f) some = _
    have c : decide ((k : Int) < (n : Int)) = false := by rw [decide_eq_false_iff_not]; omega
    simp only [F23_l22, c, allw, List.flatMap_nil, List.append_nil]
  | j + 1, k, f, L, bs, hf, hk, hL, hl, hb => by
    obtain ⟨f, rfl⟩ : ∃ f', f = f' + 1 := ⟨f - 1, by omega⟩
    obtain ⟨q, hq⟩ := enc_loop (strOfNums bs) (n : Int) (k : Int) 15 1 600 L 0 [] (by omega) (by omega) (by omega) hL hl (by simp) (by simp)
    rw [Int.zero_mul] at q
    replace q : (F23_l32 600).L 600 (rowsW L, strOfNums bs, 0, (⟨#[]⟩ : ByteArray), 1, (n : Int), (k : Int)) = _ := q
    rw [List.nil_append] at q
    have pu := put4 (strOfNums bs) (by rw [strOf_size]; omega) (n := hor 0 (pad 15 L)) (by omega)
    rw [← strOf_app] at pu
    have e1 : i64 ((k : Int) + 1) = ((k + 1 : Nat) : Int) := by rw [i64_id (by omega)]; omega
    have hlen : ((pad 15 L).flatMap fun w => be4 w.2).length ≤ 60 := by
      have : ((pad 15 L).flatMap fun w => be4 w.2) = ((pad 15 L).map (·.2)).flatMap be4 := by rw [List.flatMap_map]
      rw [this, fm4_len, List.length_map, pad_len]
      omega
    have c2 : (strOfNums (bs ++ be4 (hor 0 (pad 15 L)))).size + (strOfNums ((pad 15 L).flatMap fun w => be4 w.2)).size ≤ 9223372036854775807 := by
      have e4 : (be4 (hor 0 (pad 15 L))).length = 4 := rfl
      rw [strOf_size, strOf_size, List.length_append]
      omega
    have e5 : bs ++ be4 (hor 0 (pad 15 L)) ++ ((pad 15 L).flatMap fun w => be4 w.2) ++ (allw j (L.drop 15)).flatMap be4 = bs ++ (allw (j + 1) L).flatMap be4 := by
      simp only [allw, List.flatMap_cons, List.flatMap_append, List.append_assoc, List.flatMap_map]
    have r1 := out_frames n hn j (k + 1) f (L.drop 15) (bs ++ be4 (hor 0 (pad 15 L)) ++ ((pad 15 L).flatMap fun w => be4 w.2)) (by omega) (by omega) (fun w hw => hL w (List.mem_of_mem_drop hw)) (by simp; omega) (by
      rw [List.length_append, List.length_append]
      have e4 : (be4 (hor 0 (pad 15 L))).length = 4 := rfl
      omega)
    rw [e5] at r1
    show (F23_l22 600).b _ _ ((F23_l22 600).L f) some = _
    obtain ⟨Lf, hLf⟩ : ∃ Lf, Lf = (F23_l22 600).L f := ⟨_, rfl⟩
    rw [← hLf] at r1 ⊢
    have c1 : decide ((k : Int) < (n : Int)) = true := by rw [decide_eq_true_iff]; omega
    simp only [F23_l22, c1, F23_d32, q, pu, c2, if_true, ← strOf_app, e1]
    exact r1
/-- The words that are laid down. -/
def lX (X : List Int) : List Wo := (0, X.headD 0 % 4294967296) :: (0, X.getLastD 0 % 4294967296) :: wX X
theorem lX_ok {X : List Int} (hX : ∀ x ∈ X, Smp x) : ∀ w ∈ lX X, WOk w := by
  intro w hw
  rcases List.mem_cons.1 hw with rfl | hw
  · unfold WOk; dsimp only; omega
  rcases List.mem_cons.1 hw with rfl | hw
  · unfold WOk; dsimp only; omega
  have := (wds_ok X.length (dX X) (by rw [dX_len]; omega) (dX_fit hX)).2 w hw
  unfold WOk
  omega
theorem enc_ok (X : List Int) (hl : X.length ≤ 500) (h0 : X ≠ []) (hX : ∀ x ∈ X, Smp x) (hn : nfr (wX X).length ≤ 8) : F23_d 600 (rowsI X) = some (FS (nfr (wX X).length) (lX X), 0) := by
  have hp : 0 < X.length := List.length_pos_iff.2 h0
  have c : ((X.length : Int) == 0) = false := by rw [beq_eq_false_iff_ne]; omega
  have c2 : decide (((nfr (wX X).length : Nat) : Int) > 8) = false := by rw [decide_eq_false_iff_not]; omega
  have z0 : (0 : Int) ≤ 0 := by omega
  have t0 : (0 : Int).toNat = 0 := rfl
  have g0 := rowsI_get X 0 hp
  have e1 : i64 ((X.length : Int) - 1) = ((X.length - 1 : Nat) : Int) := by rw [i64_id (by omega)]; omega
  have z1 : (0 : Int) ≤ ((X.length - 1 : Nat) : Int) := by omega
  have hl1 : X.length - 1 < X.length := by omega
  have g1 := rowsI_get X (X.length - 1) hl1
  have f0 : ∀ x, Smp x → Fit32 x := fun x h => by unfold Smp at h; unfold Fit32; omega
  have w0 := wrap32 (f0 _ (hX _ (List.getElem_mem hp)))
  have w1 := wrap32 (f0 _ (hX _ (List.getElem_mem hl1)))
  have eh : X.headD 0 = X[0] := by cases X with | nil => exact absurd rfl h0 | cons a r => rfl
  have el : X.getLastD 0 = X[X.length - 1] := by
    rw [List.getLastD_eq_getLast?, List.getLast?_eq_getElem?, List.getElem?_eq_getElem hl1]; rfl
  have eL : [[AV.v (.int .i64 0), AV.v (.int .i64 (X[0] % 4294967296))], [AV.v (.int .i64 0), AV.v (.int .i64 (X[X.length - 1] % 4294967296))]] ++ rowsW (wX X) = rowsW (lX X) := by
    unfold lX
    rw [eh, el]
    rfl
  have hwl := (wX_len X).1
  have hb : (2 + (wX X).length) * 16 ≤ maxBytes := by unfold maxBytes; omega
  have r := out_frames (nfr (wX X).length) hn (nfr (wX X).length) 0 600 (lX X) [] (by omega) (by omega) (lX_ok hX) (by simp [lX]; omega) (by simp)
  replace r : (F23_l22 600).L 600 (rowsW (lX X), (⟨#[]⟩ : ByteArray), (nfr (wX X).length : Int), 0) = some (FS (nfr (wX X).length) (lX X)) := r
  simp only [F23_d, FSpec.d, F23_s, rowsI_len, c, comp_ok X hl h0 hX, Bool.not_true, frames_ok X hl h0 hX, c2, z0, t0, if_true, g0, List.getElem?_cons_zero, w0, e1, z1, Int.toNat_natCast, g1, w1, List.length_cons, List.length_nil, Nat.zero_add, Nat.reduceAdd, rowsW_len, hb, eL, F23_d22, r]
end Go.Proofs.YtdmedeaknnldcaaDoor
