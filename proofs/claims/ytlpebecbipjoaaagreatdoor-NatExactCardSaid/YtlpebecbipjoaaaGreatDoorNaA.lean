/- Natural numbers, the plain law: limbs and their value. -/
import Derived.Test.YtlpebecbipjoaaaGreatDoorNeT
namespace Go.Proofs.YtlpebecbipjoaaaGreatDoor
open Go.RowKit
set_option linter.unusedVariables false
set_option linter.unusedSimpArgs false
set_option linter.unnecessarySimpa false
def rowsI (xs : List Int) : List (List AV) := xs.map fun x => [AV.v (.int .i64 x)]
def cellsI (xs : List Int) : List AV := xs.map fun x => AV.v (.int .i64 x)
theorem i64_id {x : Int} (h : -9223372036854775808 ≤ x ∧ x ≤ 9223372036854775807) : i64 x = x := IntWalk.i64_in _ (by omega)
theorem rowsI_len (xs : List Int) : (rowsI xs).length = xs.length := by simp [rowsI]
theorem rowsI_get (xs : List Int) (k : Nat) (h : k < xs.length) : (rowsI xs)[k]? = some [AV.v (.int .i64 xs[k])] := by simp [rowsI, h]
theorem rowsI_snoc (xs : List Int) (y : Int) : rowsI xs ++ [[AV.v (.int .i64 y)]] = rowsI (xs ++ [y]) := by simp [rowsI]
theorem rowsI_take (xs : List Int) (k : Nat) : (rowsI xs).take k = rowsI (xs.take k) := by simp [rowsI]
theorem rowsI_flat (xs : List Int) : (rowsI xs).flatten = cellsI xs := by
  induction xs with
  | nil => rfl
  | cons x r ih =>
    show [AV.v (.int .i64 x)] ++ (rowsI r).flatten = AV.v (.int .i64 x) :: cellsI r
    rw [ih]; rfl
theorem cellsI_len (l : List Int) : (cellsI l).length = l.length := by simp [cellsI]
theorem cellsI_get (xs : List Int) (k : Nat) (h : k < xs.length) : (cellsI xs)[k]? = some (AV.v (.int .i64 xs[k])) := by simp [cellsI, h]
theorem cellsI_dat (l : List Int) : (cellsI l).map dat0 = cellsI l := by
  simp only [cellsI, List.map_map]
  rfl
theorem cellsI_set (l : List Int) (i : Nat) (v : Int) : (cellsI l).set i (AV.v (.int .i64 v)) = cellsI (l.set i v) := by
  simp only [cellsI, List.map_set]
theorem cellsI_app (a b : List Int) : cellsI a ++ cellsI b = cellsI (a ++ b) := by simp [cellsI]
theorem cellsI_take (a : List Int) (k : Nat) : (cellsI a).take k = cellsI (a.take k) := by simp [cellsI]
theorem chunksI : ∀ l : List Int, chunks (cellsI l) 1 l.length = rowsI l
  | [] => rfl
  | a :: r => by
    have q := chunksI r
    show _ :: chunks (cellsI r) 1 r.length = _
    rw [q]; rfl
theorem chunks_all (l : List Int) (n : Nat) (h : l.length = n) : chunks ((cellsI l).take (n * 1)) 1 n = rowsI l := by
  subst h
  rw [Nat.mul_one, List.take_of_length_le (by rw [cellsI_len]; omega), chunksI]
theorem zeros_cells (n : Nat) : List.replicate n (AV.v (.int .i64 0)) = cellsI (List.replicate n 0) := by simp [cellsI]
theorem LSpec.one (l : LSpec) (x : l.X) : l.L 600 x = l.b x l.Y (l.L 599) some := rfl
/-! Shifts. -/
theorem two_le {a b : Nat} (h : a ≤ b) : (2 : Int) ^ a ≤ 2 ^ b := by
  have := Nat.pow_le_pow_right (n := 2) (by omega) h
  exact_mod_cast this
theorem shL_ok {x y : Int} (hy : 0 ≤ y ∧ y ≤ 63) (h : -9223372036854775808 ≤ x * 2 ^ y.toNat ∧ x * 2 ^ y.toNat ≤ 9223372036854775807) : shL .i64 x y = x * 2 ^ y.toNat := by
  unfold shL
  have : min y.toNat (IntKind.bits .i64) = y.toNat := Nat.min_eq_left (by show y.toNat ≤ 64; omega)
  rw [this]
  exact i64_id h
theorem shR_ok {x y : Int} (hy : 0 ≤ y ∧ y ≤ 63) : shR .i64 x y = x / 2 ^ y.toNat := by
  unfold shR
  have : min y.toNat (IntKind.bits .i64) = y.toNat := Nat.min_eq_left (by show y.toNat ≤ 64; omega)
  rw [this]
  exact Int.fdiv_eq_ediv_of_nonneg _ (Int.le_of_lt (Int.pow_pos (by omega)))
theorem ofInt_nat (x : Int) : ((BitVec.ofInt 64 x).toNat : Int) = x % 18446744073709551616 := by
  rw [BitVec.toNat_ofInt]
  have : (0 : Int) ≤ x % ((2 ^ 64 : Nat) : Int) := Int.emod_nonneg _ (by decide)
  rw [Int.toNat_of_nonneg this]
  rfl
theorem bOr_ok {a b : Int} {w : Nat} (hw : w ≤ 62) (ha : 0 ≤ a) (hb : 0 ≤ b ∧ b < 2 ^ w) (hs : a * 2 ^ w + b ≤ 9223372036854775807) : bOr .i64 (a * 2 ^ w) b = a * 2 ^ w + b := by
  unfold bOr
  show IntKind.i64.wrap (((BitVec.ofInt 64 (a * 2 ^ w) ||| BitVec.ofInt 64 b).toNat : Nat) : Int) = _
  have hp : (1 : Int) ≤ 2 ^ w := Int.pow_pos (by omega)
  have h0 : 0 ≤ a * 2 ^ w := Int.mul_nonneg ha (by omega)
  obtain ⟨A, rfl⟩ : ∃ A : Nat, a = (A : Int) := ⟨a.toNat, by omega⟩
  obtain ⟨B, rfl⟩ : ∃ B : Nat, b = (B : Int) := ⟨b.toNat, by omega⟩
  have eB : B < 2 ^ w := by
    have := hb.2
    have e : ((2 ^ w : Nat) : Int) = 2 ^ w := by simp
    omega
  have e1 : (BitVec.ofInt 64 ((A : Int) * 2 ^ w)).toNat = A * 2 ^ w := by
    have e := ofInt_nat ((A : Int) * 2 ^ w)
    rw [Int.emod_eq_of_lt (by omega) (by omega)] at e
    have : ((A * 2 ^ w : Nat) : Int) = (A : Int) * 2 ^ w := by simp
    omega
  have e2 : (BitVec.ofInt 64 (B : Int)).toNat = B := by
    have e := ofInt_nat (B : Int)
    rw [Int.emod_eq_of_lt (by omega) (by omega)] at e
    omega
  rw [BitVec.toNat_or, e1, e2, Nat.mul_comm A, ← Nat.two_pow_add_eq_or_of_lt eB]
  have e3 : ((2 ^ w * A + B : Nat) : Int) = (A : Int) * 2 ^ w + B := by simp [Int.mul_comm]
  rw [e3]
  exact i64_id (by omega)
theorem shR30 {x : Int} : shR .i64 x (30 : Int) = x / 1073741824 := shR_ok (y := 30) (by omega)
theorem or30 {a b : Int} (ha : 0 ≤ a ∧ a ≤ 1073741824) (hb : 0 ≤ b ∧ b < 1073741824) : bOr .i64 (shL .i64 a (30 : Int)) b = a * 1073741824 + b := by
  have e : shL .i64 a (30 : Int) = a * 2 ^ 30 := shL_ok (y := 30) (by omega) (by
    show -9223372036854775808 ≤ a * 1073741824 ∧ a * 1073741824 ≤ 9223372036854775807
    omega)
  rw [e, bOr_ok (w := 30) (by omega) ha.1 hb (by omega)]
  rfl
/-- The numbers of a limb. -/
abbrev Bs : Nat := 1073741824
/-- The value of limbs. -/
def vv : List Int → Nat
  | [] => 0
  | x :: r => x.toNat + 1073741824 * vv r
/-- The limbs of a number. -/
def nf (V : Nat) : List Int := if h : V = 0 then [] else ((V % 1073741824 : Nat) : Int) :: nf (V / 1073741824)
termination_by V
decreasing_by exact Nat.div_lt_self (by omega) (by decide)
theorem nf_zero : nf 0 = [] := by rw [nf]; simp
theorem nf_pos {V : Nat} (h : V ≠ 0) : nf V = ((V % 1073741824 : Nat) : Int) :: nf (V / 1073741824) := by rw [nf, dif_neg h]
def Dg (xs : List Int) : Prop := ∀ x ∈ xs, 0 ≤ x ∧ x < 1073741824
theorem Dg.cons {x : Int} {r : List Int} (h : Dg (x :: r)) : (0 ≤ x ∧ x < 1073741824) ∧ Dg r := ⟨h x (by simp), fun y hy => h y (by simp [hy])⟩
theorem Dg.nil : Dg [] := fun x h => by cases h
theorem Dg.app {a b : List Int} (ha : Dg a) (hb : Dg b) : Dg (a ++ b) := fun x h => by
  rcases List.mem_append.1 h with h | h
  · exact ha x h
  · exact hb x h
theorem Dg.one {x : Int} (h : 0 ≤ x ∧ x < 1073741824) : Dg [x] := fun y hy => by
  obtain rfl : y = x := by simpa using hy
  exact h
theorem Dg.take {a : List Int} (h : Dg a) (k : Nat) : Dg (a.take k) := fun x hx => h x (List.mem_of_mem_take hx)
theorem Dg.drop {a : List Int} (h : Dg a) (k : Nat) : Dg (a.drop k) := fun x hx => h x (List.mem_of_mem_drop hx)
theorem Dg.get {a : List Int} (h : Dg a) (k : Nat) (hk : k < a.length) : 0 ≤ a[k] ∧ a[k] < 1073741824 := h _ (List.getElem_mem hk)
theorem Dg.set {a : List Int} (h : Dg a) (k : Nat) {x : Int} (hx : 0 ≤ x ∧ x < 1073741824) : Dg (a.set k x) := fun y hy => by
  rcases List.mem_or_eq_of_mem_set hy with h1 | h1
  · exact h y h1
  · subst h1; exact hx
theorem nf_dg : ∀ V : Nat, Dg (nf V) := by
  intro V
  induction V using Nat.strongRecOn with
  | ind V ih =>
    by_cases h : V = 0
    · subst h; rw [nf_zero]; exact Dg.nil
    · rw [nf_pos h]
      intro x hx
      rcases List.mem_cons.1 hx with hx | hx
      · subst hx
        have := Nat.mod_lt V (show 0 < 1073741824 by decide)
        have e : Bs = 1073741824 := rfl
        omega
      · exact ih _ (Nat.div_lt_self (by omega) (by decide)) x hx
theorem vv_nf : ∀ V : Nat, vv (nf V) = V := by
  intro V
  induction V using Nat.strongRecOn with
  | ind V ih =>
    by_cases h : V = 0
    · subst h; rw [nf_zero]; rfl
    · rw [nf_pos h]
      show (((V % 1073741824 : Nat) : Int)).toNat + 1073741824 * vv (nf (V / 1073741824)) = V
      rw [ih _ (Nat.div_lt_self (by omega) (by decide))]
      have := Nat.mod_add_div V 1073741824
      omega
/-- Zeros at the end are taken off. -/
def trimZ : List Int → List Int
  | [] => []
  | x :: r => if trimZ r = [] ∧ x = 0 then [] else x :: trimZ r
theorem trim_nf : ∀ {xs : List Int}, Dg xs → trimZ xs = nf (vv xs)
  | [], _ => by rw [show vv [] = 0 from rfl, nf_zero]; rfl
  | x :: r, h => by
    obtain ⟨h1, h2⟩ := h.cons
    have ih := trim_nf h2
    have e0 : Bs = 1073741824 := rfl
    unfold trimZ
    rw [ih]
    by_cases hv : vv r = 0
    · rw [hv, nf_zero]
      by_cases hx : x = 0
      · rw [if_pos ⟨rfl, hx⟩]
        have : vv (x :: r) = 0 := by show x.toNat + 1073741824 * vv r = 0; rw [hv]; omega
        rw [this, nf_zero]
      · rw [if_neg (fun e => hx e.2)]
        have hvv : vv (x :: r) = x.toNat := by show x.toNat + 1073741824 * vv r = _; rw [hv]; omega
        rw [hvv, nf_pos (by omega), Nat.mod_eq_of_lt (by omega), Nat.div_eq_of_lt (by omega), nf_zero]
        congr 1; omega
    · rw [if_neg (fun e => hv (by have := vv_nf (vv r); rw [e.1] at this; exact this.symm))]
      have hvv : vv (x :: r) = x.toNat + 1073741824 * vv r := rfl
      have hm : (x.toNat + 1073741824 * vv r) % 1073741824 = x.toNat := by omega
      have hd : (x.toNat + 1073741824 * vv r) / 1073741824 = vv r := by omega
      rw [hvv, nf_pos (V := x.toNat + 1073741824 * vv r) (by omega), hm, hd]
      congr 1; omega
def NoZ (xs : List Int) : Prop := xs.getLast? ≠ some 0
theorem trim_id : ∀ {xs : List Int}, NoZ xs → trimZ xs = xs
  | [], _ => rfl
  | x :: r, h => by
    unfold trimZ
    have hr : NoZ r := by
      intro e
      apply h
      cases r with
      | nil => cases e
      | cons y s => rw [List.getLast?_cons_cons]; exact e
    rw [trim_id hr, if_neg]
    rintro ⟨e1, e2⟩
    subst e1; subst e2
    exact h rfl
theorem nf_noz : ∀ V : Nat, NoZ (nf V) := by
  intro V
  induction V using Nat.strongRecOn with
  | ind V ih =>
    by_cases h : V = 0
    · subst h; rw [nf_zero]; intro e; cases e
    · rw [nf_pos h]
      intro e
      have hlt : V / 1073741824 < V := Nat.div_lt_self (by omega) (by decide)
      by_cases h2 : V / 1073741824 = 0
      · rw [h2, nf_zero] at e
        simp at e
        have := Nat.mod_add_div V 1073741824
        rw [h2] at this
        omega
      · have := ih _ hlt
        rw [nf_pos h2] at e this
        rw [List.getLast?_cons_cons] at e
        exact this e
theorem nf_vv {xs : List Int} (h : Dg xs) (hz : NoZ xs) : nf (vv xs) = xs := by rw [← trim_nf h, trim_id hz]
theorem vv_inj {xs ys : List Int} (h : Dg xs) (hz : NoZ xs) (h' : Dg ys) (hz' : NoZ ys) (e : vv xs = vv ys) : xs = ys := by
  rw [← nf_vv h hz, ← nf_vv h' hz', e]
theorem vv_app : ∀ (a b : List Int), vv (a ++ b) = vv a + Bs ^ a.length * vv b
  | [], b => by simp [vv]
  | x :: r, b => by
    have := vv_app r b
    simp only [List.cons_append, vv, List.length_cons, this, Nat.pow_succ]
    grind
theorem vv_lt : ∀ {a : List Int}, Dg a → vv a < Bs ^ a.length
  | [], _ => by simp [vv]
  | x :: r, h => by
    obtain ⟨h1, h2⟩ := h.cons
    have := vv_lt h2
    simp only [vv, List.length_cons, Nat.pow_succ]
    have e0 : Bs = 1073741824 := rfl
    have h3 : 1073741824 * (vv r + 1) ≤ 1073741824 * Bs ^ r.length := Nat.mul_le_mul_left _ this
    rw [Nat.mul_comm (Bs ^ r.length)]
    show _ < 1073741824 * Bs ^ r.length
    omega
theorem vv_take_succ (a : List Int) (k : Nat) (h : k < a.length) : vv (a.take (k + 1)) = vv (a.take k) + Bs ^ k * (a[k]).toNat := by
  rw [List.take_succ_eq_append_getElem h, vv_app, List.length_take, Nat.min_eq_left (by omega)]
  simp [vv]
theorem vv_drop (a : List Int) (k : Nat) (h : k < a.length) : vv (a.drop k) = (a[k]).toNat + 1073741824 * vv (a.drop (k + 1)) := by
  rw [List.drop_eq_getElem_cons h]; rfl
theorem vv_split (a : List Int) (k : Nat) (h : k ≤ a.length) : vv a = vv (a.take k) + Bs ^ k * vv (a.drop k) := by
  have := vv_app (a.take k) (a.drop k)
  rw [List.take_append_drop, List.length_take, Nat.min_eq_left h] at this
  exact this
theorem vv_set : ∀ (a : List Int) (k : Nat) (d : Int) (h : k < a.length), vv (a.set k d) + Bs ^ k * (a[k]).toNat = vv a + Bs ^ k * d.toNat
  | x :: r, 0, d, h => by simp [vv]; omega
  | x :: r, k + 1, d, h => by
    have := vv_set r k d (by simpa using h)
    simp only [List.set_cons_succ, vv, List.getElem_cons_succ, Nat.pow_succ]
    grind
theorem vv_zeros : ∀ n : Nat, vv (List.replicate n 0) = 0
  | 0 => rfl
  | n + 1 => by
    have := vv_zeros n
    simp [List.replicate_succ, vv, this]
theorem Dg.zeros (n : Nat) : Dg (List.replicate n 0) := fun x h => by
  obtain ⟨-, rfl⟩ := List.mem_replicate.1 h
  omega
theorem nf_len : ∀ (k V : Nat), (nf V).length ≤ k ↔ V < Bs ^ k
  | 0, V => by
    constructor
    · intro h
      have : nf V = [] := List.length_eq_zero_iff.1 (by omega)
      have h2 := vv_nf V
      rw [this] at h2
      have : vv [] = 0 := rfl
      simp; omega
    · intro h
      have : V = 0 := by simpa using h
      rw [this, nf_zero]; simp
  | k + 1, V => by
    by_cases h : V = 0
    · subst h
      rw [nf_zero]
      exact ⟨fun _ => Nat.pow_pos (by decide), fun _ => by simp⟩
    · rw [nf_pos h, List.length_cons, Nat.add_le_add_iff_right, nf_len k, Nat.pow_succ, Nat.div_lt_iff_lt_mul (by decide)]
theorem vv_len {a b : List Int} (ha : Dg a) (hb : Dg b) (hz : NoZ b) (h : a.length < b.length) : vv a < vv b := by
  have h1 := vv_lt ha
  rcases Nat.lt_or_ge (vv a) (vv b) with q | q
  · exact q
  · exfalso
    have h2 : vv b < Bs ^ a.length := by omega
    have := (nf_len a.length (vv b)).2 h2
    rw [nf_vv hb hz] at this
    omega
/-- How two lists of limbs differ first, from the end. -/
theorem vv_cmp {a b : List Int} (ha : Dg a) (hb : Dg b) (hl : a.length = b.length) (k : Nat) (hk : k < a.length) (he : a.drop (k + 1) = b.drop (k + 1)) (hlt : a[k] < b[k]'(by omega)) : vv a < vv b := by
  rw [vv_split a (k + 1) (by omega), vv_split b (k + 1) (by omega), he, vv_take_succ a k hk, vv_take_succ b k (by omega)]
  have h1 := vv_lt (ha.take k)
  rw [List.length_take, Nat.min_eq_left (by omega)] at h1
  have a1 := ha.get k hk
  have b1 := hb.get k (by omega)
  have h2 : Bs ^ k * ((a[k]).toNat + 1) ≤ Bs ^ k * (b[k]'(by omega)).toNat := Nat.mul_le_mul_left _ (by omega)
  rw [Nat.mul_add] at h2
  omega
end Go.Proofs.YtlpebecbipjoaaaGreatDoor
