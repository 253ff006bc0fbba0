/- Utc, the plain law: UtcTables. -/
import Derived.Test.YtaanjciokdpkmaaDoorUtI
namespace Go.Proofs.YtaanjciokdpkmaaDoor
set_option linter.unusedVariables false
set_option linter.unusedSimpArgs false
set_option linter.unnecessarySimpa false
noncomputable def dateT (x : Int) : Int × Int × Int := (F10_d 600 x).getD (0, 0, 0)
noncomputable def civC (c : Int) (s u : Int) : Int × Int × Int × Int × Int × Int × Int × Int := ((dateT (c / 86400)).1, (dateT (c / 86400)).2.1, (dateT (c / 86400)).2.2, c % 86400 / 3600, c / 60 % 60, s, u, 0)
theorem civil_fun {ds : List Int} (G : Good ds) {t : Int} (h : 0 ≤ t ∧ t ≤ 9007199254740992) {p : Nat} {b : Bool} (S : Spot ds (t / 1000000) p b) : F18_d 600 (rowsI (lp ds), t) = some (civC (t / 1000000 - p - (if b = true then 1 else 0)) (if b = true then 60 else (t / 1000000 - p) % 60) (t % 1000000)) := by
  obtain ⟨p', b', y, m, d, s, v, e, g, r⟩ := civil_ok G h
  obtain ⟨rfl, rfl⟩ := S.uniq s
  rw [r]
  simp only [civC, dateT, g, Option.getD_some]
theorem offset_fun {ds : List Int} (G : Good ds) {t : Int} (h : 0 ≤ t ∧ t ≤ 9007199254740992) {p : Nat} {b : Bool} (S : Spot ds (t / 1000000) p b) : F17_d 600 (rowsI (lp ds), t) = some (p : Int) := by
  obtain ⟨p', b', r, s⟩ := offset_ok G h
  obtain ⟨rfl, rfl⟩ := S.uniq s
  exact r
theorem take_get (ds : List Int) (k q : Nat) (h : q < (lp (ds.take k)).length) : ∃ h' : q < (lp ds).length, (lp (ds.take k))[q] = (lp ds)[q] ∧ q < k := by
  have h1 : q < (ds.take k).length := by rw [lp_len] at h; exact h
  have h2 : q < ds.length ∧ q < k := by simp at h1; omega
  have h3 : q < (lp ds).length := by rw [lp_len]; exact h2.1
  refine ⟨h3, ?_, h2.2⟩
  rw [lp_get, lp_get, List.getElem_take]
theorem take_len (ds : List Int) {k : Nat} (h : k ≤ ds.length) : (lp (ds.take k)).length = k := by rw [lp_len]; simp; omega
theorem spot_before {ds : List Int} (G : Good ds) {x : Int} {p k : Nat} {b : Bool} (hk : k < (lp ds).length) (hx : x < (lp ds)[k]) (S : Spot ds x p b) : Spot (ds.take k) x p b := by
  have hkd : k ≤ ds.length := by rw [lp_len] at hk; omega
  have hp : p ≤ k := by
    rcases Nat.lt_or_ge k p with q | q
    · have := S.lt k hk q; omega
    · exact q
  refine ⟨by rw [take_len ds hkd]; exact hp, fun q h hq => ?_, fun q h hq => ?_, ?_⟩
  · obtain ⟨h', e, _⟩ := take_get ds k q h
    rw [e]; exact S.lt q h' hq
  · obtain ⟨h', e, _⟩ := take_get ds k q h
    rw [e]; exact S.ge q h' hq
  · rw [S.on]
    constructor
    · rintro ⟨h, e⟩
      have hpk : p < k := by
        rcases Nat.lt_or_ge p k with q | q
        · exact q
        · obtain rfl : p = k := by omega
          omega
      have h' : p < (lp (ds.take k)).length := by rw [take_len ds hkd]; exact hpk
      obtain ⟨h2, e2, _⟩ := take_get ds k p h'
      exact ⟨h', e2.trans e⟩
    · rintro ⟨h, e⟩
      obtain ⟨h2, e2, _⟩ := take_get ds k p h
      exact ⟨h2, e2.symm.trans e⟩
theorem spot_behind {ds : List Int} (G : Good ds) {x : Int} {k : Nat} (hk : k < (lp ds).length) (hx : (lp ds)[k] ≤ x + 10) : Spot (ds.take k) x k false := by
  have hkd : k ≤ ds.length := by rw [lp_len] at hk; omega
  refine ⟨by rw [take_len ds hkd]; omega, fun q h hq => ?_, fun q h hq => ?_, ⟨fun h => (by cases h), fun ⟨h, _⟩ => ?_⟩⟩
  · obtain ⟨h', e, h2⟩ := take_get ds k q h
    have := lp_inc G h2 hk
    rw [e]; omega
  · rw [take_len ds hkd] at h; omega
  · rw [take_len ds hkd] at h; omega
theorem civ_same (a : Int × Int × Int × Int × Int × Int × Int × Int) : ((a.1 == a.1) && ((a.2.1 == a.2.1) && ((a.2.2.1 == a.2.2.1) && ((a.2.2.2.1 == a.2.2.2.1) && ((a.2.2.2.2.1 == a.2.2.2.2.1) && ((a.2.2.2.2.2.1 == a.2.2.2.2.2.1) && ((a.2.2.2.2.2.2.1 == a.2.2.2.2.2.2.1) && true))))))) = true := by simp
theorem tables_law {xs : List Int} (hb : ∀ x ∈ xs, -9223372036854775808 ≤ x ∧ x ≤ 9223372036854775807) {n : Int} (hn : 0 ≤ n ∧ n ≤ 4294967295) : F5_d 600 (rowsI xs, n) = some true := by
  by_cases hl : (xs.length : Int) ≤ 500
  · have L1 : F13_d 600 (rowsI xs) = some true := by simp only [F13_d, FSpec.d, F13_s, rowsI_len, decide_eq_true hl]
    have R1 : F14_d 600 (rowsI xs) = some (rowsI xs, 0) := rfl
    obtain ⟨ds, p1, e1, G, D⟩ := leaps_ok (xs := xs) (p := 0) ⟨hb, by omega, by omega, by omega⟩
    have hg := G.len
    have t0 : i64 (IntKind.i64.wrap n * 50000) = n * 50000 := by
      have : IntKind.i64.wrap n = n := i64_id (by omega)
      rw [this]; exact i64_id (by omega)
    by_cases hz : ds.length = 0
    · have ez : ((((lp ds).length : Nat) : Int) == 0) = true := by rw [lp_len, hz]; rfl
      simp only [F5_d, FSpec.d, F5_s, L1, Bool.not_true, R1, e1, rowsI_len, ez, sane_ok]
    · have ez : ((((lp ds).length : Nat) : Int) == 0) = false := by rw [lp_len]; exact beq_eq_false_iff_ne.2 (by omega)
      obtain ⟨v, p2, g1, g2, g3⟩ := next_ok 600 (n := ((lp ds).length : Int)) (by rw [lp_len]; omega) D
      obtain ⟨k, rfl⟩ : ∃ k : Nat, v = (k : Int) := ⟨v.toNat, by omega⟩
      have hk : k < (lp ds).length := by omega
      have hT : (rowsI (lp ds)).take ((k : Int)).toNat = rowsI (lp (ds.take k)) := by
        rw [show ((k : Int)).toNat = k by omega, lp_take]; simp [rowsI]
      have hr : ((rowsI (lp ds))[((k : Int)).toNat]? : Option (List AV)) = some [AV.v (.int .i64 ((lp ds)[k]))] := by
        rw [show ((k : Int)).toNat = k by omega, rowsI_get _ _ hk]
      have ht : 0 ≤ n * 50000 ∧ n * 50000 ≤ 9007199254740992 := by omega
      obtain ⟨p, b, -, S⟩ := spot_ok G (n * 50000 / 1000000)
      have C1 := civil_fun G ht S
      have es : i64 ((n * 50000).tdiv 1000000) = n * 50000 / 1000000 := by
        rw [Int.tdiv_eq_ediv_of_nonneg ht.1]; exact i64_id (by omega)
      have hk0 : (0 : Int) ≤ (k : Int) := by omega
      have hk1 : (0 : Int) ≤ (k : Int) ∧ (k : Int) ≤ ((lp ds).length : Int) := by omega
      by_cases hx : n * 50000 / 1000000 < (lp ds)[k]
      · have C2 := civil_fun (G.take k) ht (spot_before G hk hx S)
        simp only [F5_d, FSpec.d, F5_s, L1, Bool.not_true, R1, e1, rowsI_len, ez, g1, t0, hT, C1, C2, hr, List.getElem?_cons_zero, es, decide_eq_true hx, civ_same, sane_ok, hk0, hk1, if_true, and_self]
        simp [civC]
      · have hx' : (lp ds)[k] ≤ n * 50000 / 1000000 := by omega
        have C2 := civil_fun (G.take k) ht (spot_behind G hk (by omega))
        have O1 := offset_fun G ht S
        have O2 := offset_fun (G.take k) ht (spot_behind (x := n * 50000 / 1000000) G hk (by omega))
        have hpk : k ≤ p := by
          rcases Nat.lt_or_ge p k with q | q
          · have h1 := S.ge p (by omega) (Nat.le_refl _)
            have h2 := lp_inc G q hk
            omega
          · exact q
        have hp4 := (S.base G (by omega)).2
        have hb0 := (S.base G (by omega)).1
        have em : i64 ((p : Int) - (k : Int)) = (p : Int) - k := i64_id (by omega)
        have em2 : i64 (((p : Int) - (k : Int)) * 1000000) = ((p : Int) - k) * 1000000 := i64_id (by omega)
        have em3 : i64 (n * 50000 - ((p : Int) - (k : Int)) * 1000000) = n * 50000 - ((p : Int) - k) * 1000000 := i64_id (by omega)
        obtain ⟨d, d1, d2, d3, d4⟩ := Good.at ds G k hk
        have ht3 : 0 ≤ n * 50000 - ((p : Int) - (k : Int)) * 1000000 ∧ n * 50000 - ((p : Int) - (k : Int)) * 1000000 ≤ 9007199254740992 := by omega
        have q3 : (n * 50000 - ((p : Int) - (k : Int)) * 1000000) / 1000000 = n * 50000 / 1000000 - (p - k) := by omega
        have q4 : (n * 50000 - ((p : Int) - (k : Int)) * 1000000) % 1000000 = n * 50000 % 1000000 := by omega
        have C3 := civil_fun (G.take k) ht3 (by rw [q3]; exact spot_behind G hk (by omega))
        rw [q3, q4] at C3
        simp only [F5_d, FSpec.d, F5_s, L1, Bool.not_true, R1, e1, rowsI_len, ez, g1, t0, hT, C1, C2, hr, List.getElem?_cons_zero, es, decide_eq_false hx, O1, O2, em, em2, em3, C3, sane_ok, hk0, hk1, if_true, and_self]
        cases b
        · have n60 : ((n * 50000 / 1000000 - (p : Int)) % 60 == 60) = false := beq_eq_false_iff_ne.2 (by omega)
          rw [show n * 50000 / 1000000 - ((p : Int) - k) - k - (if (false = true) then 1 else 0) = n * 50000 / 1000000 - p - (if (false = true) then 1 else 0) by simp; omega]
          rw [show n * 50000 / 1000000 - ((p : Int) - k) - k = n * 50000 / 1000000 - p by omega]
          simp [civC, n60]
        · have hm : (0 : Int) ≤ (p : Int) - k := by omega
          simp [civC, hm, hpk]
  · have L1 : F13_d 600 (rowsI xs) = some false := by simp only [F13_d, FSpec.d, F13_s, rowsI_len, decide_eq_false hl]
    simp only [F5_d, FSpec.d, F5_s, L1, Bool.not_false, sane_ok]
end Go.Proofs.YtaanjciokdpkmaaDoor
