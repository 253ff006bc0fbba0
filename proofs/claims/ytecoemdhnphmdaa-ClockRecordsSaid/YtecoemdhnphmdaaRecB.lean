/- ClockRecords, the plain law: anchors. -/
import Derived.Test.YtecoemdhnphmdaaRecA
namespace Go.Proofs.Ytecoemdhnphmdaa
set_option linter.unusedVariables false
set_option linter.unusedSimpArgs false
set_option linter.unnecessarySimpa false
structure Anc (A : List (Int × Int × Int)) : Prop where
  len : A.length ≤ 5
  tag : ∀ a ∈ A, 1000 ≤ a.1 ∧ a.1 ≤ 101000
  rng : ∀ a ∈ A, 999999999900 ≤ a.2.1 ∧ a.2.1 ≤ a.2.2 ∧ a.2.2 ≤ 1000000200000
  asc : A.Pairwise fun a b => a.1 < b.1
theorem anc_loop (N : Nat) {xs : List Int} (drift : Int) : ∀ (k f : Nat) (p tag : Int) (acc : List (Int × Int × Int)), k < f → acc.length + k ≤ 5 → Dice xs p →
    (1000 ≤ tag ∧ tag ≤ 1000 + 20000 * acc.length) → (∀ a ∈ acc, 1000 ≤ a.1 ∧ a.1 ≤ tag) → (∀ a ∈ acc, 999999999900 ≤ a.2.1 ∧ a.2.1 ≤ a.2.2 ∧ a.2.2 ≤ 1000000200000) → (acc.Pairwise fun a b => a.1 < b.1) →
    ∃ (A : List (Int × Int × Int)) (p' : Int), (F13_l0 N).L f (rowsA acc, false, drift, tag, tag + 999999999000, (k : Int), rowsI xs, p) = some (rowsA A, drift, rowsI xs, p') ∧ Anc A ∧ Dice xs p'
  | 0, f, p, tag, acc, hf, hl, D, ht, h1, h2, h3 => by
    obtain ⟨f, rfl⟩ : ∃ f', f = f' + 1 := ⟨f - 1, by omega⟩
    refine ⟨acc, p, ?_, ⟨by omega, fun a ha => ?_, h2, h3⟩, D⟩
    · show (F13_l0 N).b _ _ ((F13_l0 N).L f) some = _
      simp only [F13_l0]
      simp
    · have := h1 a ha; omega
  | k + 1, f, p, tag, acc, hf, hl, D, ht, h1, h2, h3 => by
    obtain ⟨f, rfl⟩ : ∃ f', f = f' + 1 := ⟨f - 1, by omega⟩
    obtain ⟨v, p1, g1, m1, D1⟩ := next_ok N (n := 20) (by omega) D
    obtain ⟨u, p2, g2, m2, D2⟩ := next_ok N (n := 40) (by omega) D1
    obtain ⟨z, p3, g3, m3, D3⟩ := next_ok N (n := 40) (by omega) D2
    have hacc : (acc ++ [(tag + 1000 * (1 + v), tag + 999999999000 + 1000 * (1 + v) - u, tag + 999999999000 + 1000 * (1 + v) + z)]).length = acc.length + 1 := by simp
    obtain ⟨A, p', r1, r2, r3⟩ := anc_loop N drift k f p3 (tag + 1000 * (1 + v)) (acc ++ [(tag + 1000 * (1 + v), tag + 999999999000 + 1000 * (1 + v) - u, tag + 999999999000 + 1000 * (1 + v) + z)]) (by omega) (by omega) D3 (by rw [hacc]; omega)
      (fun a ha => by
        rcases List.mem_append.1 ha with h | h
        · have := h1 a h; omega
        · simp at h; subst h; dsimp only; omega)
      (fun a ha => by
        rcases List.mem_append.1 ha with h | h
        · exact h2 a h
        · simp at h; subst h; dsimp only; omega)
      (by
        rw [List.pairwise_append]
        refine ⟨h3, by simp, fun a ha b hb => ?_⟩
        simp at hb; subst hb; dsimp only
        have := h1 a ha; omega)
    refine ⟨A, p', ?_, r2, r3⟩
    show (F13_l0 N).b _ _ ((F13_l0 N).L f) some = _
    obtain ⟨Lf, hL⟩ : ∃ Lf, Lf = (F13_l0 N).L f := ⟨_, rfl⟩
    rw [← hL] at r1 ⊢
    simp only [F13_l0]
    have hk : decide (((k + 1 : Nat) : Int) > 0) = true := by simp
    have e1 : i64 (1 + v) = 1 + v := i64_id (by omega)
    have e2 : i64 (1000 * (1 + v)) = 1000 * (1 + v) := i64_id (by omega)
    have e3 : i64 (tag + 1000 * (1 + v)) = tag + 1000 * (1 + v) := i64_id (by omega)
    have e4 : i64 (tag + 999999999000 + 1000 * (1 + v)) = tag + 999999999000 + 1000 * (1 + v) := i64_id (by omega)
    have e5 : i64 (tag + 999999999000 + 1000 * (1 + v) - u) = tag + 999999999000 + 1000 * (1 + v) - u := i64_id (by omega)
    have e6 : i64 (tag + 999999999000 + 1000 * (1 + v) + z) = tag + 999999999000 + 1000 * (1 + v) + z := i64_id (by omega)
    have hi : i64 (((k + 1 : Nat) : Int) - 1) = (k : Int) := by rw [i64_id (by omega)]; omega
    have hb : ∀ r : List AV, ((rowsA acc).length + [r].length) * 24 ≤ maxBytes := fun r => by
      rw [rowsA_len]; unfold maxBytes; simp; omega
    have hr : rowsA acc ++ [[AV.v (.int .i64 (tag + 1000 * (1 + v))), AV.v (.int .i64 (tag + 999999999000 + 1000 * (1 + v) - u)), AV.v (.int .i64 (tag + 999999999000 + 1000 * (1 + v) + z))]] = rowsA (acc ++ [(tag + 1000 * (1 + v), tag + 999999999000 + 1000 * (1 + v) - u, tag + 999999999000 + 1000 * (1 + v) + z)]) := by simp [rowsA]
    simp only [hk, g1, g2, g3, e1, e2, e3, e4, e5, e6, hi, hb, if_true, hr]
    rw [show tag + 999999999000 + 1000 * (1 + v) = tag + 1000 * (1 + v) + 999999999000 by omega] at r1 ⊢
    exact r1
theorem anc_ok {xs : List Int} {p : Int} (D : Dice xs p) : ∃ (A : List (Int × Int × Int)) (drift p' : Int), F13_d 600 (false, rowsI xs, p) = some (rowsA A, drift, rowsI xs, p') ∧ Anc A ∧ (0 ≤ drift ∧ drift ≤ 50000) ∧ Dice xs p' := by
  obtain ⟨n1, p1, h1, m1, D1⟩ := pick_ok 600 [0, 0, 100, 50000] (by simp) D
  replace h1 : F23_d 600 ([[AV.v (.int .i64 0)], [AV.v (.int .i64 0)], [AV.v (.int .i64 100)], [AV.v (.int .i64 50000)]], rowsI xs, p) = some (n1, rowsI xs, p1) := h1
  obtain ⟨n2, p2, h2, m2, D2⟩ := next_ok 600 (n := 6) (by omega) D1
  obtain ⟨A, p', r1, r2, r3⟩ := anc_loop 600 (xs := xs) n1 n2.toNat 600 p2 1000 [] (by omega) (by simp; omega) D2 (by simp) (by simp) (by simp) (by simp)
  have e : ((n2.toNat : Nat) : Int) = n2 := by omega
  rw [e] at r1
  refine ⟨A, n1, p', ?_, r2, by simp at m1; omega, r3⟩
  replace r1 : (F13_l0 600).L 600 (([] : List (List AV)), false, n1, 1000, 1000000000000, n2, rowsI xs, p2) = some (rowsA A, n1, rowsI xs, p') := r1
  simp only [F13_d, FSpec.d, F13_s, h1, h2, F13_d0, r1]
theorem in_yes (N : Nat) {x lo hi : Int} (h : lo ≤ x ∧ x ≤ hi) : F39_d N (x, lo, hi) = some true := by
  simp only [F39_d, FSpec.d, F39_s]
  simp [h.1, h.2]
theorem time_yes (N : Nat) {x : Int} (h : 0 ≤ x ∧ x ≤ 9007199254740992) : F35_d N x = some true := by
  simp only [F35_d, FSpec.d, F35_s, in_yes N h]
theorem valid_loop (N : Nat) {A : List (Int × Int × Int)} (HA : Anc A) (drift : Int) : ∀ (k i f : Nat), k < f → i + k = A.length → (F26_l0 N).L f (rowsA A, rowsA A, drift, (A.length : Int), (i : Int)) = some (.inr (rowsA A, drift))
  | 0, i, f, hf, hi => by
    obtain ⟨f, rfl⟩ : ∃ f', f = f' + 1 := ⟨f - 1, by omega⟩
    show (F26_l0 N).b _ _ ((F26_l0 N).L f) some = _
    simp only [F26_l0]
    have : decide ((i : Int) < (A.length : Int)) = false := by simp; omega
    simp only [this]
  | k + 1, i, f, hf, hi => by
    obtain ⟨f, rfl⟩ : ∃ f', f = f' + 1 := ⟨f - 1, by omega⟩
    have r1 := valid_loop N HA drift k (i + 1) f (by omega) (by omega)
    show (F26_l0 N).b _ _ ((F26_l0 N).L f) some = _
    obtain ⟨Lf, hL⟩ : ∃ Lf, Lf = (F26_l0 N).L f := ⟨_, rfl⟩
    rw [← hL] at r1 ⊢
    have hlt : i < A.length := by omega
    have hm := List.getElem_mem hlt
    have t := HA.tag _ hm
    have r := HA.rng _ hm
    have hl5 := HA.len
    simp only [F26_l0]
    have c1 : decide ((i : Int) < (A.length : Int)) = true := by simp; omega
    have c2 : (0 : Int) ≤ (i : Int) := by omega
    have c3 : decide (A[i].2.1 > A[i].2.2) = false := by simp; omega
    have c4 : i64 ((i : Int) + 1) = ((i + 1 : Nat) : Int) := by rw [i64_id (by omega)]; omega
    simp only [c1, c2, if_true, Int.toNat_natCast, rowsA_get A i hlt, List.getElem?_cons_zero, List.getElem?_cons_succ, time_yes N (x := A[i].1) (by omega), time_yes N (x := A[i].2.1) (by omega), time_yes N (x := A[i].2.2) (by omega), Bool.not_true, c3, c4]
    by_cases h0 : i = 0
    · subst h0
      simp only [show decide (((0 : Nat) : Int) > 0) = false from rfl]
      exact r1
    · have c5 : decide ((i : Int) > 0) = true := by simp; omega
      have c6 : i64 ((i : Int) - 1) = ((i - 1 : Nat) : Int) := by rw [i64_id (by omega)]; omega
      have hlt' : i - 1 < A.length := by omega
      have asc : A[i - 1].1 < A[i].1 := List.pairwise_iff_getElem.1 HA.asc (i - 1) i hlt' hlt (by omega)
      have c7 : decide (A[i].1 ≤ A[i - 1].1) = false := by simp; omega
      have c8 : (0 : Int) ≤ ((i - 1 : Nat) : Int) := by omega
      simp only [c5, c6, c8, if_true, Int.toNat_natCast, rowsA_get A _ hlt', List.drop_zero, List.getElem?_cons_zero, c7]
      exact r1
theorem valid_ok {A : List (Int × Int × Int)} (HA : Anc A) {drift : Int} (hd : 0 ≤ drift ∧ drift ≤ 50000) : F26_d 600 (rowsA A, drift) = some true := by
  have l5 := HA.len
  have r := valid_loop 600 HA drift A.length 0 600 (by omega) (by omega)
  replace r : (F26_l0 600).L 600 (rowsA A, rowsA A, drift, (A.length : Int), 0) = _ := r
  simp only [F26_d, FSpec.d, F26_s, F26_d0, rowsA_len, r, in_yes 600 (x := drift) (lo := 0) (hi := 500000) (by omega)]
  have : decide ((A.length : Int) ≤ 256) = true := by simp; omega
  simp only [this]
end Go.Proofs.Ytecoemdhnphmdaa
