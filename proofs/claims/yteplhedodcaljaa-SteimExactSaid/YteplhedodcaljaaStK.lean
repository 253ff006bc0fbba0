/- Steim, the plain law: SteimSizes. -/
import Derived.Test.YteplhedodcaljaaStJ
namespace Go.Proofs.Yteplhedodcaljaa
open Go.RowKit
set_option linter.unusedVariables false
set_option linter.unusedSimpArgs false
set_option linter.unnecessarySimpa false
def Sml (b : Int) (X : List Int) : Prop := ∀ x ∈ X, -b ≤ x ∧ x ≤ b
theorem grow_loop {xs : List Int} (c : Int) (hc : 0 ≤ c ∧ c ≤ 65535) : ∀ (k f : Nat) (p v : Int) (acc : List Int), k < f → acc.length + k ≤ 90 → Dice xs p → (-40000 * (acc.length : Int) ≤ v ∧ v ≤ 40000 * (acc.length : Int)) → Sml 3600000 acc →
    ∃ (X : List Int), (F3_l11 600).L f (rowsI acc, rowsI (acc.map (· + c)), c, v, (k : Int), rowsI xs, p) = some (rowsI X, rowsI (X.map (· + c))) ∧ X.length = acc.length + k ∧ Sml 3600000 X
  | 0, f, p, v, acc, hf, hl, D, hv, ha => by
    obtain ⟨f, rfl⟩ : ∃ f', f = f' + 1 := ⟨f - 1, by omega⟩
    refine ⟨acc, ?_, rfl, ha⟩
    show (F3_l11 600).b _ _ ((F3_l11 600).L f) some = _
    have e : decide (((0 : Nat) : Int) > 0) = false := rfl
    simp only [F3_l11, e]
  | k + 1, f, p, v, acc, hf, hl, D, hv, ha => by
    obtain ⟨f, rfl⟩ : ∃ f', f = f' + 1 := ⟨f - 1, by omega⟩
    have hk : decide (((k + 1 : Nat) : Int) > 0) = true := by rw [decide_eq_true_iff]; omega
    have hi : i64 (((k + 1 : Nat) : Int) - 1) = (k : Int) := by rw [i64_id (by omega)]; omega
    have hb : ((rowsI acc).length + 1) * 8 ≤ maxBytes := by rw [rowsI_len]; unfold maxBytes; omega
    have hb2 : ((rowsI (acc.map (· + c))).length + 1) * 8 ≤ maxBytes := by rw [rowsI_len]; simp; unfold maxBytes; omega
    obtain ⟨w, p1, g1, m1, D1⟩ := pick_ok 600 [0, 1, -3, 127, 128, -128, -129, 40000, -40000] (by simp) D
    replace g1 : F12_d 600 ([[(AV.v (.int .i64 0))], [(AV.v (.int .i64 1))], [(AV.v (.int .i64 (-3)))], [(AV.v (.int .i64 127))], [(AV.v (.int .i64 128))], [(AV.v (.int .i64 (-128)))], [(AV.v (.int .i64 (-129)))], [(AV.v (.int .i64 40000))], [(AV.v (.int .i64 (-40000)))]], rowsI xs, p) = some (w, rowsI xs, p1) := g1
    have hw : -40000 ≤ w ∧ w ≤ 40000 := by simp at m1; omega
    have hlen : (acc.length : Int) ≤ 89 := by omega
    have e1 : i64 (v + w) = v + w := i64_id (by omega)
    have e2 : IntKind.i64.wrap c = c := i64_id (by omega)
    have e3 : i64 (v + w + c) = v + w + c := i64_id (by omega)
    have r := grow_loop c hc k f p1 (v + w) (acc ++ [v + w]) (by omega) (by simp; omega) D1 (by simp; omega) (fun x hx => by
      rcases List.mem_append.1 hx with h | h
      · exact ha x h
      · rw [List.mem_singleton.1 h]; omega)
    obtain ⟨X, r1, r2, r3⟩ := r
    refine ⟨X, ?_, by rw [r2]; simp; omega, r3⟩
    have em : (acc ++ [v + w]).map (· + c) = acc.map (· + c) ++ [v + w + c] := by simp
    rw [em] at r1
    show (F3_l11 600).b _ _ ((F3_l11 600).L f) some = _
    obtain ⟨Lf, hL⟩ : ∃ Lf, Lf = (F3_l11 600).L f := ⟨_, rfl⟩
    rw [← hL] at r1 ⊢
    simp only [F3_l11, hk, g1, e1, e2, e3, List.length_cons, List.length_nil, Nat.zero_add, hb, hb2, if_true, rowsI_snoc, hi]
    exact r1
theorem dX_map (X : List Int) (c : Int) : dX (X.map (· + c)) = dX X := by
  unfold dX
  rw [List.length_map]
  apply List.map_congr_left
  intro i hi
  rw [List.mem_range] at hi
  by_cases h0 : i = 0
  · rw [if_pos h0, if_pos h0]
  · rw [if_neg h0, if_neg h0]
    have h1 : i - 1 < X.length := by omega
    simp only [List.getD_eq_getElem?_getD, List.getElem?_map, List.getElem?_eq_getElem hi, List.getElem?_eq_getElem h1, Option.map_some, Option.getD_some]
    omega
theorem wX_map (X : List Int) (c : Int) : wX (X.map (· + c)) = wX X := by
  unfold wX
  rw [dX_map, List.length_map]
/-- Bytes that are alike but for the first and the last sample. -/
theorem cmp_loop (a b : ByteArray) (x : Int) (hs : a.size = b.size) (ha : a.size ≤ 512) (h : ∀ i, i < a.size → i < 4 ∨ 12 ≤ i → (nums a).getD i 0 = (nums b).getD i 0) : ∀ (k i f : Nat), k < f → i + k = a.size → (F3_l28 600).L f (x, a, b, (i : Int)) = some (.inr (x, a))
  | 0, i, f, hf, hi => by
    obtain ⟨f, rfl⟩ : ∃ f', f = f' + 1 := ⟨f - 1, by omega⟩
    show (F3_l28 600).b _ _ ((F3_l28 600).L f) some = _
    have c : decide ((i : Int) < (a.size : Int)) = false := by rw [decide_eq_false_iff_not]; omega
    simp only [F3_l28, c]
  | k + 1, i, f, hf, hi => by
    obtain ⟨f, rfl⟩ : ∃ f', f = f' + 1 := ⟨f - 1, by omega⟩
    have r1 := cmp_loop a b x hs ha h k (i + 1) f (by omega) (by omega)
    show (F3_l28 600).b _ _ ((F3_l28 600).L f) some = _
    obtain ⟨Lf, hL⟩ : ∃ Lf, Lf = (F3_l28 600).L f := ⟨_, rfl⟩
    rw [← hL] at r1 ⊢
    have hlt : i < a.size := by omega
    have c1 : decide ((i : Int) < (a.size : Int)) = true := by rw [decide_eq_true_iff]; omega
    have c2 : (0 : Int) ≤ (i : Int) := by omega
    have c4 : i64 ((i : Int) + 1) = ((i + 1 : Nat) : Int) := by rw [i64_id (by omega)]; omega
    obtain ⟨u, hu, hu2⟩ := byte_get a i hlt
    obtain ⟨w, hw, hw2⟩ := byte_get b i (by omega)
    by_cases e : (nums a).getD i 0 = (nums b).getD i 0
    · have c3 : ((nums a).getD i 0 != (nums b).getD i 0) = false := by simp only [e, bne_self_eq_false]
      simp only [F3_l28, c1, c2, if_true, Int.toNat_natCast, hu, hw, hu2, hw2, c3, c4]
      exact r1
    · have c3 : ((nums a).getD i 0 != (nums b).getD i 0) = true := bne_iff_ne.2 e
      have hn : 4 ≤ i ∧ i < 12 := by
        by_cases q : i < 4 ∨ 12 ≤ i
        · exact absurd (h i hlt q) e
        · omega
      have d1 : decide ((i : Int) < 4) = false := by rw [decide_eq_false_iff_not]; omega
      have d2 : decide ((i : Int) ≥ 12) = false := by rw [decide_eq_false_iff_not]; omega
      simp only [F3_l28, c1, c2, if_true, Int.toNat_natCast, hu, hw, hu2, hw2, c3, c4, d1, d2]
      exact r1
theorem fs_alike (n : Nat) (hn : 1 ≤ n) (f l g o : Int) (ws : List Wo) (i : Nat) (hi : i < 4 ∨ 12 ≤ i) : (nums (FS n ((0, f) :: (0, l) :: ws))).getD i 0 = (nums (FS n ((0, g) :: (0, o) :: ws))).getD i 0 := by
  obtain ⟨n, rfl⟩ : ∃ n', n = n' + 1 := ⟨n - 1, by omega⟩
  obtain ⟨h, R, hR⟩ := allw_three n f l ws
  unfold FS
  rw [nums_strOf (be4_all _), nums_strOf (be4_all _), hR f l, hR g o]
  have e : ∀ a b : Int, (h :: a :: b :: R).flatMap be4 = be4 h ++ ((be4 a ++ be4 b) ++ R.flatMap be4) := fun a b => by
    simp only [List.flatMap_cons, List.append_assoc]
  have e4 : ∀ x, (be4 x).length = 4 := fun x => rfl
  rw [e, e]
  simp only [List.getD_eq_getElem?_getD]
  rcases hi with hi | hi
  · rw [List.getElem?_append_left (by rw [e4]; exact hi), List.getElem?_append_left (by rw [e4]; exact hi)]
  · have q1 : ∀ a b : Int, (be4 a ++ be4 b).length = 8 := fun a b => by rw [List.length_append, e4, e4]
    rw [List.getElem?_append_right (by rw [e4]; omega), List.getElem?_append_right (by rw [q1, e4]; omega), List.getElem?_append_right (by rw [e4]; omega), List.getElem?_append_right (by rw [q1, e4]; omega), q1, q1]
theorem sizes_law (t : List Int) (ht : ∀ x ∈ t, -9223372036854775808 ≤ x ∧ x ≤ 9223372036854775807) (c : Int) (hc : 0 ≤ c ∧ c ≤ 65535) : F3_d 600 (rowsI t, c) = some true := by
  by_cases hl : (t.length : Int) ≤ 500
  · have D : Dice t 0 := ⟨ht, by omega, by omega, by omega⟩
    have hroll : F10_d 600 (rowsI t) = some (rowsI t, 0) := rfl
    obtain ⟨q, p1, g1, m1, D1⟩ := next_ok 600 (n := 90) (by omega) D
    have e1 : i64 (1 + q) = ((1 + q.toNat : Nat) : Int) := by rw [i64_id (by omega)]; omega
    obtain ⟨X, g2, l1, hS⟩ := grow_loop c hc (1 + q.toNat) 600 p1 0 [] (by omega) (by simp; omega) D1 (by simp) (fun x hx => by cases hx)
    replace g2 : (F3_l11 600).L 600 (([] : List (List AV)), ([] : List (List AV)), c, 0, ((1 + q.toNat : Nat) : Int), rowsI t, p1) = _ := g2
    simp only [List.length_nil, Nat.zero_add] at l1
    have hX : ∀ x ∈ X, Smp x := fun x hx => by have := hS x hx; unfold Smp; omega
    have hY : ∀ x ∈ X.map (· + c), Smp x := fun x hx => by
      obtain ⟨y, hy, rfl⟩ := List.mem_map.1 hx
      have := hS y hy
      unfold Smp
      omega
    have h0 : X ≠ [] := fun e => by rw [e] at l1; simp at l1; omega
    have hY0 : X.map (· + c) ≠ [] := by simpa using h0
    have hw := wX_len X
    have hp := wX_pos h0
    obtain ⟨n1, n2, n3⟩ := nfr_rng (wX X).length (by omega)
    have hYl : (X.map (· + c)).length = X.length := by simp
    have w1 := words_ok X (by omega) h0 hX
    have w2 := words_ok (X.map (· + c)) (by omega) hY0 hY
    have f1 := frames_ok X (by omega) h0 hX
    have n1' : nfr (wX (X.map (· + c))).length ≤ 8 := by rw [wX_map]; exact n2
    have b1 := enc_ok X (by omega) h0 hX n2
    have b2 := enc_ok (X.map (· + c)) (by omega) hY0 hY n1'
    rw [wX_map] at w2 b2
    obtain ⟨n, hn⟩ : ∃ n, n = nfr (wX X).length := ⟨_, rfl⟩
    obtain ⟨wl, hwl⟩ : ∃ wl, wl = (wX X).length := ⟨_, rfl⟩
    rw [← hn] at n1 n2 n3 b1 b2 f1
    rw [← hwl] at w1 w2 hw hp n3 hn
    have s1 := FS_size n (lX X)
    have s2 := FS_size n (lX (X.map (· + c)))
    have eL1 : lX X = (0, X.headD 0 % 4294967296) :: (0, X.getLastD 0 % 4294967296) :: wX X := rfl
    have eL2 : lX (X.map (· + c)) = (0, (X.map (· + c)).headD 0 % 4294967296) :: (0, (X.map (· + c)).getLastD 0 % 4294967296) :: wX X := by
      unfold lX
      rw [wX_map]
    have hcmp := cmp_loop (FS n (lX X)) (FS n (lX (X.map (· + c)))) (wl : Int) (by rw [s1, s2]) (by rw [s1]; omega) (fun i hi h => by
      rw [eL1, eL2]
      exact fs_alike n n1 _ _ _ _ _ i h) (64 * n) 0 600 (by omega) (by rw [s1]; omega)
    replace hcmp : (F3_l28 600).L 600 ((wl : Int), FS n (lX X), FS n (lX (X.map (· + c))), 0) = _ := hcmp
    have c1 : decide (i64 (4 * (wl : Int)) < (X.length : Int)) = false := by
      rw [decide_eq_false_iff_not, i64_id (by omega)]
      omega
    have c2 : decide ((wl : Int) > (X.length : Int)) = false := by rw [decide_eq_false_iff_not]; omega
    have c3 : (((FS n (lX X)).size : Int) != ((FS n (lX (X.map (· + c)))).size : Int)) = false := by rw [s1, s2]; simp only [bne_self_eq_false]
    have c4 : (((FS n (lX X)).size : Int) != i64 (64 * (n : Int))) = false := by
      rw [s1, i64_id (by omega)]
      have : ((64 * n : Nat) : Int) = 64 * (n : Int) := by omega
      rw [this]; simp only [bne_self_eq_false]
    have d1 : i64 (15 * ((FS n (lX X)).size : Int)) = 15 * (64 * (n : Int)) := by rw [s1, i64_id (by omega)]; omega
    have d2 : i64 ((15 * (64 * (n : Int))).tdiv 64) = 15 * (n : Int) := by
      rw [Int.tdiv_eq_ediv_of_nonneg (by omega), i64_id (by omega)]
      omega
    have d3 : i64 (15 * (n : Int) - 2) = 15 * (n : Int) - 2 := i64_id (by omega)
    have d4 : i64 (15 * (n : Int) - 2 - (wl : Int)) = 15 * (n : Int) - 2 - (wl : Int) := i64_id (by omega)
    have d5 : decide (15 * (n : Int) - 2 ≥ (wl : Int)) = true := by rw [decide_eq_true_iff]; omega
    have d6 : decide (15 * (n : Int) - 2 - (wl : Int) < 15) = true := by
      rw [decide_eq_true_iff]
      unfold nfr at hn
      omega
    simp only [F3_d, FSpec.d, F3_s, light_ok, hl, decide_true, Bool.not_true, hroll, g1, e1, F3_d11, g2, w1, b1, b2, rowsI_len, c1, c2, bne_self_eq_false, c3, f1, c4, w2, F3_d28, hcmp, d1, d2, d3, d4, d5, d6, sane_ok]
  · simp only [F3_d, FSpec.d, F3_s, light_ok, hl, decide_false, Bool.not_false, sane_ok]
theorem steim_sizes (a : Option Addr) (len cap : Nat) (n : Int) (W : World) (hr : IntsIn W (.slice a len cap)) (hn : 0 ≤ n ∧ n ≤ 65535) :
    Calls Try.prog 3 #[.slice a len cap, .int .u16 n] W fun e w' => e = .returned (.bool true) ∧ Below W.heap.size W w' := by
  obtain ⟨xs, h1, h2, h3⟩ := hr
  have ok := (F3_e 600).ok (rowsI xs, n) true (sizes_law xs h1 n hn)
  refine CallOk.calls (args := [.list 1 (rowsI xs) none, .v (.int .u16 n)]) ok W _ rfl (fun i h h' => ?_)
  have : i = 0 ∨ i = 1 := by simp at h; omega
  rcases this with rfl | rfl
  · exact h3 _ _
  · exact .v
end Go.Proofs.Yteplhedodcaljaa
