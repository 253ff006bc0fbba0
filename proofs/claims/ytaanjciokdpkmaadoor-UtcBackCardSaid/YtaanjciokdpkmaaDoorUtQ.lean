/- Utc, the plain law: UtcAscends. -/
import Derived.Test.YtaanjciokdpkmaaDoorUtP
namespace Go.Proofs.YtaanjciokdpkmaaDoor
set_option linter.unusedVariables false
set_option linter.unusedSimpArgs false
set_option linter.unnecessarySimpa false
theorem spot_at {ds : List Int} (G : Good ds) {i : Nat} (hi : i < (lp ds).length) : Spot ds ((lp ds)[i]) i true := by
  refine ⟨by omega, fun q h hq => ?_, fun q h hq => ?_, ⟨fun _ => ⟨hi, rfl⟩, fun _ => rfl⟩⟩
  · have := lp_inc G hq hi; omega
  · rcases Nat.lt_or_ge i q with h1 | h1
    · have := lp_inc G h1 h; omega
    · obtain rfl : q = i := by omega
      omega
theorem spot_prev {ds : List Int} (G : Good ds) {i : Nat} (hi : i < (lp ds).length) : Spot ds ((lp ds)[i] - 1) i false := by
  refine ⟨by omega, fun q h hq => ?_, fun q h hq => ?_, ⟨fun h => (by cases h), fun ⟨h, e⟩ => ?_⟩⟩
  · have := lp_inc G hq hi; omega
  · rcases Nat.lt_or_ge i q with h1 | h1
    · have := lp_inc G h1 h; omega
    · obtain rfl : q = i := by omega
      omega
  · exfalso; omega
theorem spot_next {ds : List Int} (G : Good ds) {i : Nat} (hi : i < (lp ds).length) : Spot ds ((lp ds)[i] + 1) (i + 1) false := by
  refine ⟨by omega, fun q h hq => ?_, fun q h hq => ?_, ⟨fun h => (by cases h), fun ⟨h, e⟩ => ?_⟩⟩
  · rcases Nat.lt_or_ge q i with h1 | h1
    · have := lp_inc G h1 hi; omega
    · obtain rfl : q = i := by omega
      omega
  · have := lp_inc G (show i < q by omega) h; omega
  · exfalso
    have := lp_inc G (show i < i + 1 by omega) h; omega
theorem asc_loop {ds : List Int} (G : Good ds) : ∀ (k f i : Nat), i + k = ds.length → k < f → (F4_l18 600).L f (rowsI (lp ds), rowsI (lp ds), (ds.length : Int), (i : Int)) = some (.inr ())
  | 0, f, i, hk, hf => by
    obtain ⟨f, rfl⟩ : ∃ f', f = f' + 1 := ⟨f - 1, by omega⟩
    show (F4_l18 600).b _ _ ((F4_l18 600).L f) some = _
    generalize (F4_l18 600).L f = Lf
    simp only [F4_l18, decide_eq_false (show ¬ (i : Int) < (ds.length : Int) by omega)]
  | k + 1, f, i, hk, hf => by
    obtain ⟨f, rfl⟩ : ∃ f', f = f' + 1 := ⟨f - 1, by omega⟩
    have hlen := G.len
    have hi : i < (lp ds).length := by rw [lp_len]; omega
    obtain ⟨d, h1, h2, h3, h4⟩ := Good.at ds G i hi
    have r := asc_loop G k f (i + 1) (by omega) (by omega)
    rw [show ((i + 1 : Nat) : Int) = (i : Int) + 1 by omega] at r
    have s1 := spot_at G hi
    have s2 := spot_prev G hi
    have s3 := spot_next G hi
    have hr : ((rowsI (lp ds))[((i : Int)).toNat]? : Option (List AV)) = some [AV.v (.int .i64 ((lp ds)[i]))] := by
      rw [show ((i : Int)).toNat = i by omega, rowsI_get _ i hi]
    generalize hx : (lp ds)[i] = x at *
    have C1 := civil_fun G (t := x * 1000000) (by omega) (p := i) (b := true) (by rw [show x * 1000000 / 1000000 = x by omega]; exact s1)
    have C2 := civil_fun G (t := x * 1000000 - 1) (by omega) (p := i) (b := false) (by rw [show (x * 1000000 - 1) / 1000000 = x - 1 by omega]; exact s2)
    have C3 := civil_fun G (t := x * 1000000 + 1000000) (by omega) (p := i + 1) (b := false) (by rw [show (x * 1000000 + 1000000) / 1000000 = x + 1 by omega]; exact s3)
    have O1 := offset_fun G (t := x * 1000000) (by omega) (p := i) (b := true) (by rw [show x * 1000000 / 1000000 = x by omega]; exact s1)
    have O3 := offset_fun G (t := x * 1000000 + 1000000) (by omega) (p := i + 1) (b := false) (by rw [show (x * 1000000 + 1000000) / 1000000 = x + 1 by omega]; exact s3)
    simp only [if_true, Bool.false_eq_true, if_false, Int.sub_zero, show x * 1000000 / 1000000 = x by omega, show (x * 1000000 - 1) / 1000000 = x - 1 by omega, show (x * 1000000 + 1000000) / 1000000 = x + 1 by omega] at C1 C2 C3
    rw [show x - 1 - (i : Int) = x - i - 1 by omega] at C2
    rw [show x + 1 - ((i + 1 : Nat) : Int) = x - i by omega] at C3
    show (F4_l18 600).b _ _ ((F4_l18 600).L f) some = _
    generalize (F4_l18 600).L f = Lf at r ⊢
    have h0 : (0 : Int) ≤ (i : Int) := by omega
    have e1 : i64 (x * 1000000) = x * 1000000 := i64_id (by omega)
    have e2 : i64 (x * 1000000 - 1) = x * 1000000 - 1 := i64_id (by omega)
    have e3 : i64 (x * 1000000 + 1000000) = x * 1000000 + 1000000 := i64_id (by omega)
    have e4 : i64 ((i : Int) + 1) = (i : Int) + 1 := i64_id (by omega)
    have z : ((0 : Int) != 0) = false := rfl
    have z60 : ((60 : Int) != 60) = false := rfl
    have z59 : ((x - (i : Int) - 1) % 60 != 59) = false := by
      rw [show (x - (i : Int) - 1) % 60 = 59 by omega]; rfl
    have z0 : ((x - (i : Int)) % 60 != 0) = false := by
      rw [show (x - (i : Int)) % 60 = 0 by omega]; rfl
    have zh : ((x - (i : Int)) % 86400 / 3600 != 0) = false := by
      rw [show (x - (i : Int)) % 86400 / 3600 = 0 by omega]; rfl
    have zi : ((i : Int) != (i : Int)) = false := by simp
    have zj : (((i + 1 : Nat) : Int) != (i : Int) + 1) = false := by simp
    have zd : ∀ a : Int, (a != a) = false := by simp
    simp only [F4_l18, decide_eq_true (show (i : Int) < (ds.length : Int) by omega), hr, List.getElem?_cons_zero, e1, e2, e3, e4, C1, C2, C3, O1, O3, civC, z, z60, z59, z0, zh, zi, zj, zd, r]
    exact (if_pos h0).trans ((if_pos trivial).trans rfl)
theorem ascends_law {xs : List Int} (hb : ∀ x ∈ xs, -9223372036854775808 ≤ x ∧ x ≤ 9223372036854775807) {n m : Int} (hn : 0 ≤ n ∧ n ≤ 4294967295) (hm : 0 ≤ m ∧ m ≤ 4294967295) : F4_d 600 (rowsI xs, n, m) = some true := by
  by_cases hl : (xs.length : Int) ≤ 500
  · have L1 : F13_d 600 (rowsI xs) = some true := by simp only [F13_d, FSpec.d, F13_s, rowsI_len, decide_eq_true hl]
    have R1 : F14_d 600 (rowsI xs) = some (rowsI xs, 0) := rfl
    obtain ⟨ds, p1, e1, G, D⟩ := leaps_ok (xs := xs) (p := 0) ⟨hb, by omega, by omega, by omega⟩
    have hg := G.len
    have t0 : i64 (IntKind.i64.wrap n * 100000) = n * 100000 := by
      have : IntKind.i64.wrap n = n := i64_id (by omega)
      rw [this]; exact i64_id (by omega)
    have tm : IntKind.i64.wrap m = m := i64_id (by omega)
    have t1 : i64 (n * 100000 + 1) = n * 100000 + 1 := i64_id (by omega)
    have t2 : i64 (n * 100000 + 1 + m) = n * 100000 + 1 + m := i64_id (by omega)
    obtain ⟨u, v, f1, f2, f3⟩ := text_lt G (s := n * 100000) (t := n * 100000 + 1 + m) (by omega) (by omega) (by omega)
    obtain ⟨p, b, -, S⟩ := spot_ok G (n * 100000 / 1000000)
    obtain ⟨p', b', -, S'⟩ := spot_ok G ((n * 100000 + 1 + m) / 1000000)
    have hp := S.mono S' (by omega)
    have O1 := offset_fun G (by omega) S
    have O2 := offset_fun G (by omega) S'
    have L : F4_d18 600 (rowsI (lp ds), rowsI (lp ds), (ds.length : Int), 0) = some (.inr ()) := asc_loop G ds.length 600 0 (by omega) (by omega)
    have z : ((0 : Int) != 0) = false := rfl
    simp only [F4_d, FSpec.d, F4_s, L1, Bool.not_true, R1, e1, t0, tm, t1, t2, f1, f2, f3, z, O1, O2, decide_eq_false (show ¬ (p : Int) > (p' : Int) by omega), rowsI_len, lp_len, L, sane_ok]
  · have L1 : F13_d 600 (rowsI xs) = some false := by simp only [F13_d, FSpec.d, F13_s, rowsI_len, decide_eq_false hl]
    simp only [F4_d, FSpec.d, F4_s, L1, Bool.not_false, sane_ok]
open Go.RowKit
/-- UtcAscends returns true. -/
theorem utc_ascends (a : Option Addr) (len cap : Nat) (n m : Int) (W : World) (w : IntsIn W (.slice a len cap)) (hn : 0 ≤ n ∧ n ≤ 4294967295) (hm : 0 ≤ m ∧ m ≤ 4294967295) (hgl : GlOk (memOf W) W [] (InT sig0 [])) : Calls Tryd.prog 4 #[.slice a len cap, .int .u32 n, .int .u32 m] W fun e w' => e = .returned (.bool true) ∧ Below W.heap.size W w' := by
  obtain ⟨xs, hb, hl, hr⟩ := w
  refine CallOk.calls ((F4_e 600).ok (rowsI xs, n, m) true (ascends_law hb hn hm)) W _ rfl (fun i h h' => ?_) hgl
  rcases (show i = 0 ∨ i = 1 ∨ i = 2 by have : i < 3 := h'; omega) with rfl | rfl | rfl
  · exact hr _ _
  · exact .v
  · exact .v
end Go.Proofs.YtaanjciokdpkmaaDoor
