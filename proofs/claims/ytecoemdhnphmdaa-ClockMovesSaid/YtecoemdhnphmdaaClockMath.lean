/- Plain laws of the clock: what its functions give. -/
namespace Go.Proofs.Ytecoemdhnphmdaa
structure Anc where
  tag : Int
  low : Int
  high : Int
def eLow (x d : Int) : Int := d * 1000000 / (1000000 + x)
def eHigh (x d : Int) : Int := (d * 1000000 + (1000000 - x) - 1) / (1000000 - x)
theorem eLow_eq (x d : Int) (h1 : 0 ≤ x) : d / (1000000 + x) * 1000000 + d % (1000000 + x) * 1000000 / (1000000 + x) = eLow x d := by
  unfold eLow
  have e : d * 1000000 = d % (1000000 + x) * 1000000 + d / (1000000 + x) * 1000000 * (1000000 + x) := by
    have := Int.emod_add_mul_ediv d (1000000 + x)
    generalize d % (1000000 + x) = r at *
    generalize d / (1000000 + x) = q at *
    subst this
    rw [Int.add_mul]
    congr 1
    rw [Int.mul_comm (1000000 + x) q, Int.mul_assoc, Int.mul_assoc, Int.mul_comm (1000000 + x)]
  rw [e, Int.add_mul_ediv_right _ _ (by omega)]
  omega
theorem eHigh_eq (x d : Int) (h2 : x ≤ 500000) : d / (1000000 - x) * 1000000 + (d % (1000000 - x) * 1000000 + (1000000 - x) - 1) / (1000000 - x) = eHigh x d := by
  unfold eHigh
  have e : d * 1000000 + (1000000 - x) - 1 = d % (1000000 - x) * 1000000 + (1000000 - x) - 1 + d / (1000000 - x) * 1000000 * (1000000 - x) := by
    have := Int.emod_add_mul_ediv d (1000000 - x)
    generalize d % (1000000 - x) = r at *
    generalize d / (1000000 - x) = q at *
    subst this
    rw [Int.add_mul]
    have : (1000000 - x) * q * 1000000 = q * 1000000 * (1000000 - x) := by
      rw [Int.mul_comm (1000000 - x) q, Int.mul_assoc, Int.mul_assoc, Int.mul_comm (1000000 - x)]
    rw [this]; omega
  rw [e, Int.add_mul_ediv_right _ _ (by omega)]
  omega
theorem eLow_bounds (x d : Int) (h1 : 0 ≤ x) (hd : 0 ≤ d) : 0 ≤ eLow x d ∧ eLow x d ≤ d := by
  unfold eLow
  refine ⟨Int.ediv_nonneg (by omega) (by omega), ?_⟩
  have : d * 1000000 / (1000000 + x) ≤ d * (1000000 + x) / (1000000 + x) := Int.ediv_le_ediv (by omega) (Int.mul_le_mul_of_nonneg_left (by omega) hd)
  rwa [Int.mul_ediv_cancel _ (by omega)] at this
theorem eHigh_bounds (x d : Int) (h1 : 0 ≤ x) (h2 : x ≤ 500000) (hd : 0 ≤ d) : d ≤ eHigh x d ∧ eHigh x d ≤ 2 * d := by
  unfold eHigh
  constructor
  · rw [Int.le_ediv_iff_mul_le (by omega)]
    have : d * (1000000 - x) ≤ d * 1000000 := Int.mul_le_mul_of_nonneg_left (by omega) hd
    omega
  · refine Int.le_of_lt_add_one (Int.ediv_lt_of_lt_mul (by omega) ?_)
    have : 2 * d * 500000 ≤ 2 * d * (1000000 - x) := Int.mul_le_mul_of_nonneg_left (by omega) (by omega)
    rw [Int.add_mul]
    omega
theorem eLow_low (x d : Int) (h1 : 0 ≤ x) : eLow x d * (1000000 + x) ≤ d * 1000000 ∧ d * 1000000 < (eLow x d + 1) * (1000000 + x) := by
  unfold eLow
  exact ⟨Int.ediv_mul_le _ (by omega), Int.lt_ediv_add_one_mul_self _ (by omega)⟩
theorem eHigh_high (x d : Int) (h2 : x ≤ 500000) : d * 1000000 ≤ eHigh x d * (1000000 - x) ∧ (eHigh x d - 1) * (1000000 - x) < d * 1000000 := by
  unfold eHigh
  have a1 := Int.ediv_mul_le (d * 1000000 + (1000000 - x) - 1) (b := 1000000 - x) (by omega)
  have a2 := Int.lt_ediv_add_one_mul_self (d * 1000000 + (1000000 - x) - 1) (b := 1000000 - x) (by omega)
  generalize (d * 1000000 + (1000000 - x) - 1) / (1000000 - x) = q at *
  rw [Int.add_mul] at a2
  rw [Int.sub_mul]
  omega
/-- Farther: greater. -/
theorem eLow_mono (x d d' : Int) (h1 : 0 ≤ x) (h : d ≤ d') : eLow x d ≤ eLow x d' := Int.ediv_le_ediv (by omega) (by omega)
theorem eHigh_mono (x d d' : Int) (h2 : x ≤ 500000) (h : d ≤ d') : eHigh x d ≤ eHigh x d' := Int.ediv_le_ediv (by omega) (by omega)
/-- More drift: wider. -/
theorem eLow_drift (x y d : Int) (h1 : 0 ≤ x) (hd : 0 ≤ d) (h : x ≤ y) : eLow y d ≤ eLow x d := by
  have a := eLow_low y d (by omega)
  have b := eLow_bounds y d (by omega) hd
  unfold eLow at *
  rw [Int.le_ediv_iff_mul_le (by omega)]
  generalize d * 1000000 / (1000000 + y) = q at *
  have : q * (1000000 + x) ≤ q * (1000000 + y) := Int.mul_le_mul_of_nonneg_left (by omega) b.1
  omega
theorem eHigh_drift (x y d : Int) (h1 : 0 ≤ x) (h2 : y ≤ 500000) (hd : 0 ≤ d) (h : x ≤ y) : eHigh x d ≤ eHigh y d := by
  have a := eHigh_high x d (by omega)
  have b := eHigh_high y d (by omega)
  have c := eHigh_bounds y d (by omega) (by omega) hd
  have c' := eHigh_bounds x d (by omega) (by omega) hd
  generalize eHigh x d = p at *
  generalize eHigh y d = q at *
  apply Int.not_lt.1
  intro hlt
  have h3 : q * (1000000 - y) ≤ q * (1000000 - x) := Int.mul_le_mul_of_nonneg_left (by omega) (by omega)
  have h4 : q * (1000000 - x) ≤ (p - 1) * (1000000 - x) := Int.mul_le_mul_of_nonneg_right (by omega) (by omega)
  omega
/-! ### What the functions of the clock give -/
def frLo (a : Anc) (x t : Int) : Int := if a.tag ≤ t then a.low + eLow x (t - a.tag) else a.low - eHigh x (a.tag - t)
def frHi (a : Anc) (x t : Int) : Int := if a.tag ≤ t then a.high + eHigh x (t - a.tag) else a.high - eLow x (a.tag - t)
def agr (a b : Anc) (x : Int) : Bool := decide (max (frLo a x b.tag) b.low ≤ min (frHi a x b.tag) b.high)
def jumpsF (A : Nat → Anc) (x : Int) : Nat → List Nat
  | 0 => []
  | k + 1 => jumpsF A x k ++ (if 1 ≤ k ∧ agr (A (k - 1)) (A k) x = false then [k] else [])
def runF (n i : Nat) : List Nat → Nat × Nat
  | [] => (0, n)
  | l => l.foldl (fun p j => if j ≤ i then (j, p.2) else if j < p.2 then (p.1, j) else p) (0, n)
def comLo (A : Nat → Anc) (x t : Int) (f : Nat) : Nat → Int
  | 0 => frLo (A f) x t
  | m + 1 => max (comLo A x t f m) (frLo (A (f + m)) x t)
def comHi (A : Nat → Anc) (x t : Int) (f : Nat) : Nat → Int
  | 0 => frHi (A f) x t
  | m + 1 => min (comHi A x t f m) (frHi (A (f + m)) x t)
/-- The number of anchors whose tag is not greater, if they ascend. -/
def behF (A : Nat → Anc) (t : Int) : Nat → Nat
  | 0 => 0
  | n + 1 => if behF A t n = n ∧ (A n).tag ≤ t then n + 1 else behF A t n
def witLo (A : Nat → Anc) (n : Nat) (J : List Nat) (x t : Int) : Int :=
  let k := behF A t n
  if k ∈ J then min (frLo (A (k - 1)) x t) (frLo (A k) x t) else
    let r := runF n (k - 1) J
    comLo A x t r.1 (r.2 - r.1)
def witHi (A : Nat → Anc) (n : Nat) (J : List Nat) (x t : Int) : Int :=
  let k := behF A t n
  if k ∈ J then max (frHi (A (k - 1)) x t) (frHi (A k) x t) else
    let r := runF n (k - 1) J
    comHi A x t r.1 (r.2 - r.1)
def corLo (A : Nat → Anc) (n : Nat) (x t : Int) : Int := max (witLo A n (jumpsF A x n) x t) 0
def corHi (A : Nat → Anc) (n : Nat) (x t : Int) : Int := min (witHi A n (jumpsF A x n) x t) 9007199254740992
/-! ### Even clocks -/
def evenAt (a : Anc) : Prop := a.low ≤ 1000000000000 + a.tag - 1000 ∧ 1000000000000 + a.tag - 1000 ≤ a.high
theorem fr_even {a : Anc} (h : evenAt a) {x t : Int} (h1 : 0 ≤ x) (h2 : x ≤ 500000) : frLo a x t ≤ 1000000000000 + t - 1000 ∧ 1000000000000 + t - 1000 ≤ frHi a x t := by
  obtain ⟨e1, e2⟩ := h
  unfold frLo frHi
  split
  · have b1 := eLow_bounds x (t - a.tag) h1 (by omega)
    have b2 := eHigh_bounds x (t - a.tag) h1 h2 (by omega)
    omega
  · have b1 := eLow_bounds x (a.tag - t) h1 (by omega)
    have b2 := eHigh_bounds x (a.tag - t) h1 h2 (by omega)
    omega
theorem agr_even {a b : Anc} (ha : evenAt a) (hb : evenAt b) {x : Int} (h1 : 0 ≤ x) (h2 : x ≤ 500000) : agr a b x = true := by
  have := fr_even ha (t := b.tag) h1 h2
  obtain ⟨e1, e2⟩ := hb
  unfold agr
  rw [decide_eq_true_iff]
  omega
theorem jumps_even {A : Nat → Anc} {n : Nat} (h : ∀ i, i < n → evenAt (A i)) {x : Int} (h1 : 0 ≤ x) (h2 : x ≤ 500000) : ∀ k, k ≤ n → jumpsF A x k = []
  | 0, _ => rfl
  | k + 1, hk => by
    unfold jumpsF
    rw [jumps_even h h1 h2 k (by omega), if_neg]
    · rfl
    · rintro ⟨c1, c2⟩
      rw [agr_even (h _ (by omega)) (h _ (by omega)) h1 h2] at c2
      cases c2
theorem com_even {A : Nat → Anc} {n : Nat} (h : ∀ i, i < n → evenAt (A i)) (hn : 0 < n) {x t : Int} (h1 : 0 ≤ x) (h2 : x ≤ 500000) : ∀ m, m ≤ n → comLo A x t 0 m ≤ 1000000000000 + t - 1000 ∧ 1000000000000 + t - 1000 ≤ comHi A x t 0 m
  | 0, _ => fr_even (h 0 hn) h1 h2
  | m + 1, hm => by
    have i1 := com_even h hn (t := t) h1 h2 m (by omega)
    have i2 := fr_even (h (0 + m) (by omega)) (t := t) h1 h2
    unfold comLo comHi
    omega
theorem wit_even {A : Nat → Anc} {n : Nat} (h : ∀ i, i < n → evenAt (A i)) {x t : Int} (h1 : 0 ≤ x) (h2 : x ≤ 500000) : witLo A n (jumpsF A x n) x t = comLo A x t 0 n ∧ witHi A n (jumpsF A x n) x t = comHi A x t 0 n := by
  rw [jumps_even h h1 h2 n (Nat.le_refl _)]
  unfold witLo witHi runF
  simp
theorem com_less (A : Nat → Anc) (x t : Int) (m : Nat) : comLo A x t 0 m ≤ comLo A x t 0 (m + 1) ∧ comHi A x t 0 (m + 1) ≤ comHi A x t 0 m := by
  constructor
  · show _ ≤ max _ _; omega
  · show min _ _ ≤ _; omega
theorem fr_drift (a : Anc) {x y : Int} (t : Int) (h1 : 0 ≤ x) (h : x ≤ y) (h2 : y ≤ 500000) : frLo a y t ≤ frLo a x t ∧ frHi a x t ≤ frHi a y t := by
  unfold frLo frHi
  split
  · have b1 := eLow_drift x y (t - a.tag) h1 (by omega) h
    have b2 := eHigh_drift x y (t - a.tag) h1 h2 (by omega) h
    omega
  · have b1 := eLow_drift x y (a.tag - t) h1 (by omega) h
    have b2 := eHigh_drift x y (a.tag - t) h1 h2 (by omega) h
    omega
theorem com_drift (A : Nat → Anc) {x y : Int} (t : Int) (h1 : 0 ≤ x) (h : x ≤ y) (h2 : y ≤ 500000) : ∀ m, comLo A y t 0 m ≤ comLo A x t 0 m ∧ comHi A x t 0 m ≤ comHi A y t 0 m
  | 0 => fr_drift (A 0) t h1 h h2
  | m + 1 => by
    have i1 := com_drift A t h1 h h2 m
    have i2 := fr_drift (A (0 + m)) t h1 h h2
    unfold comLo comHi
    omega
/-! ### Where the numbers lie -/
theorem fr_bounds {a : Anc} {x t lo hi : Int} (h1 : 0 ≤ x) (h2 : x ≤ 500000) (hl : lo ≤ a.low) (hh : a.high ≤ hi) (hlh : a.low ≤ a.high) (t0 : 0 ≤ t) (t1 : t ≤ 9007199254740992) (g0 : 0 ≤ a.tag) (g1 : a.tag ≤ 9007199254740992) :
    lo - 2 * a.tag ≤ frLo a x t ∧ frLo a x t ≤ hi + t ∧ lo - a.tag ≤ frHi a x t ∧ frHi a x t ≤ hi + 2 * t := by
  unfold frLo frHi
  split
  · have b1 := eLow_bounds x (t - a.tag) h1 (by omega)
    have b2 := eHigh_bounds x (t - a.tag) h1 h2 (by omega)
    omega
  · have b1 := eLow_bounds x (a.tag - t) h1 (by omega)
    have b2 := eHigh_bounds x (a.tag - t) h1 h2 (by omega)
    omega
theorem jumps_in (A : Nat → Anc) (x : Int) : ∀ n, ∀ j ∈ jumpsF A x n, 1 ≤ j ∧ j < n
  | 0, j, h => by cases h
  | n + 1, j, h => by
    unfold jumpsF at h
    rw [List.mem_append] at h
    rcases h with h | h
    · have := jumps_in A x n j h; omega
    · split at h
      · rename_i hc
        simp at h; omega
      · cases h
theorem jumps_length (A : Nat → Anc) (x : Int) : ∀ n, (jumpsF A x n).length ≤ n
  | 0 => Nat.le_refl _
  | n + 1 => by
    have := jumps_length A x n
    unfold jumpsF
    rw [List.length_append]
    split <;> simp <;> omega
def runS (i : Nat) (p : Nat × Nat) (j : Nat) : Nat × Nat := if j ≤ i then (j, p.2) else if j < p.2 then (p.1, j) else p
theorem run_eq (n i : Nat) (J : List Nat) : runF n i J = J.foldl (runS i) (0, n) := by
  cases J <;> rfl
theorem run_fold (n i : Nat) : ∀ (J : List Nat) (p : Nat × Nat), (∀ j ∈ J, j < n) → p.1 ≤ i → i < p.2 → p.2 ≤ n → (J.foldl (runS i) p).1 ≤ i ∧ i < (J.foldl (runS i) p).2 ∧ (J.foldl (runS i) p).2 ≤ n
  | [], p, _, h1, h2, h3 => ⟨h1, h2, h3⟩
  | j :: J, p, hJ, h1, h2, h3 => by
    rw [List.foldl_cons]
    refine run_fold n i J _ (fun k hk => hJ k (by simp [hk])) ?_ ?_ ?_ <;> (unfold runS; split <;> (try split)) <;> simp_all <;> omega
theorem runF_in {n i : Nat} {J : List Nat} (hJ : ∀ j ∈ J, j < n) (hi : i < n) : (runF n i J).1 ≤ i ∧ i < (runF n i J).2 ∧ (runF n i J).2 ≤ n := by
  rw [run_eq]; exact run_fold n i J _ hJ (Nat.zero_le _) hi (Nat.le_refl _)
theorem beh_le (A : Nat → Anc) (t : Int) : ∀ n, behF A t n ≤ n
  | 0 => Nat.le_refl _
  | n + 1 => by have := beh_le A t n; unfold behF; split <;> omega
theorem com_bounds {A : Nat → Anc} {x t lo hi lo' hi' : Int} {n : Nat} (h : ∀ i, i < n → lo ≤ frLo (A i) x t ∧ frLo (A i) x t ≤ hi ∧ lo' ≤ frHi (A i) x t ∧ frHi (A i) x t ≤ hi') (f : Nat) : ∀ m, f < n → f + m ≤ n → lo ≤ comLo A x t f m ∧ comLo A x t f m ≤ hi ∧ lo' ≤ comHi A x t f m ∧ comHi A x t f m ≤ hi'
  | 0, h1, _ => h f h1
  | m + 1, h1, h2 => by
    have i1 := com_bounds h f m h1 (by omega)
    have i2 := h (f + m) (by omega)
    unfold comLo comHi
    omega
theorem wit_bounds {A : Nat → Anc} {x t lo hi lo' hi' : Int} {n : Nat} (hn : 0 < n) (h : ∀ i, i < n → lo ≤ frLo (A i) x t ∧ frLo (A i) x t ≤ hi ∧ lo' ≤ frHi (A i) x t ∧ frHi (A i) x t ≤ hi') (J : List Nat) (hJ : ∀ j ∈ J, 1 ≤ j ∧ j < n) :
    lo ≤ witLo A n J x t ∧ witLo A n J x t ≤ hi ∧ lo' ≤ witHi A n J x t ∧ witHi A n J x t ≤ hi' := by
  have hk := beh_le A t n
  unfold witLo witHi
  simp only
  split
  · rename_i hm
    have := hJ _ hm
    have a := h (behF A t n - 1) (by omega)
    have b := h (behF A t n) (by omega)
    omega
  · have r := runF_in (n := n) (i := behF A t n - 1) (fun j hj => (hJ j hj).2) (by omega)
    exact com_bounds h _ _ (by omega) (by omega)
/-! ### Moved -/
def movA (A : Nat → Anc) (by' : Int) (i : Nat) : Anc := ⟨(A i).tag, (A i).low + by', (A i).high + by'⟩
theorem fr_mov (A : Nat → Anc) (d x t : Int) (i : Nat) : frLo (movA A d i) x t = frLo (A i) x t + d ∧ frHi (movA A d i) x t = frHi (A i) x t + d := by
  unfold frLo frHi movA
  constructor <;> (simp only; split <;> omega)
theorem agr_mov (A : Nat → Anc) (d x : Int) (i j : Nat) : agr (movA A d i) (movA A d j) x = agr (A i) (A j) x := by
  have := fr_mov A d x (A j).tag i
  unfold agr
  rw [show (movA A d j).tag = (A j).tag from rfl, show (movA A d j).low = (A j).low + d from rfl, show (movA A d j).high = (A j).high + d from rfl, this.1, this.2]
  rw [Bool.eq_iff_iff, decide_eq_true_iff, decide_eq_true_iff]
  omega
theorem jumps_mov (A : Nat → Anc) (d x : Int) : ∀ n, jumpsF (movA A d) x n = jumpsF A x n
  | 0 => rfl
  | n + 1 => by unfold jumpsF; rw [jumps_mov A d x n, agr_mov]
theorem beh_mov (A : Nat → Anc) (d t : Int) : ∀ n, behF (movA A d) t n = behF A t n
  | 0 => rfl
  | n + 1 => by unfold behF; rw [beh_mov A d t n]; rfl
theorem com_mov (A : Nat → Anc) (d x t : Int) (f : Nat) : ∀ m, comLo (movA A d) x t f m = comLo A x t f m + d ∧ comHi (movA A d) x t f m = comHi A x t f m + d
  | 0 => fr_mov A d x t f
  | m + 1 => by
    have i1 := com_mov A d x t f m
    have i2 := fr_mov A d x t (f + m)
    unfold comLo comHi
    omega
theorem wit_mov (A : Nat → Anc) (d x t : Int) (n : Nat) (J : List Nat) : witLo (movA A d) n J x t = witLo A n J x t + d ∧ witHi (movA A d) n J x t = witHi A n J x t + d := by
  unfold witLo witHi
  simp only [beh_mov]
  split
  · have a := fr_mov A d x t (behF A t n - 1)
    have b := fr_mov A d x t (behF A t n)
    omega
  · exact com_mov A d x t _ _
end Go.Proofs.Ytecoemdhnphmdaa
