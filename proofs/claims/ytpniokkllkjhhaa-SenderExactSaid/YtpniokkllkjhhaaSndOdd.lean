/- The worlds of the walk of SenderExact: ahead of the switch, behind it, in the rounds. -/
import Derived.Test.YtpniokkllkjhhaaSndSame
namespace Go.Proofs.Ytpniokkllkjhhaa
open Go.RowKit
set_option linter.unusedVariables false
set_option linter.unusedSimpArgs false
theorem IntRow.keep {w w' : World} {a : Option Addr} {len : Nat} (h : IntRow w a len) (hb : Below w.heap.size w w') : IntRow w' a len := by
  obtain ⟨h1, h2⟩ := h
  refine ⟨h1, ?_⟩
  rcases h2 with h2 | ⟨b, off, rfl, hc⟩
  · exact .inl h2
  · refine .inr ⟨b, off, rfl, fun i hi => ?_⟩
    obtain ⟨x, h1, h2⟩ := hc i hi
    exact ⟨x, by rw [hb.cell (block_lt_of_cell h1)]; exact h1, h2⟩
theorem below_at (g i : Nat) (w : World) (v : Value) : Below g w (w.setCell ⟨g, i, none⟩ v) := Below.setCell (Below.refl g w) (Nat.le_refl g) v
theorem below_at2 (g i j : Nat) (w : World) (v u : Value) : Below g w ((w.setCell ⟨g, i, none⟩ v).setCell ⟨g, j, none⟩ u) := Below.setCell (below_at g i w v) (Nat.le_refl g) u
theorem own_row {w : World} {B : Nat} {e : TypeId} {g n cap : Nat} {D : List ByteArray} (h : w.ownsRow B e 1 (.slice (some ⟨g, 0, none⟩) (0 + n) cap) (0 + n) ([] ++ strVals D)) (hn : 0 < n) : StrRow w (some ⟨g, 0, none⟩) n D ∧ (n ≤ cap ∧ cap ≤ 9223372036854775807) ∧ B ≤ g := by
  rw [Nat.zero_add, List.nil_append] at h
  obtain ⟨g', cap', he, h1, h2, h3, h4, h5, h6⟩ := (Own.of_ownsRow h).strVals_cells hn
  injection he with e1 e2 e3
  injection e1 with e1
  injection e1 with e1 e4
  subst e1
  subst e3
  exact ⟨strRow_of (w := w) h5 (fun i hi => by rw [Nat.zero_add]; exact h6 i hi) rfl, ⟨h3, h4⟩, h1⟩
/-- The world ahead of the switch, and the odd sender behind it. -/
structure Bas (W : World) (a : Option Addr) (len cap gd : Nat) (S : Sn) (g16 g17 : Nat) (w : World) : Prop where
  die : Die W a len cap gd w
  ok : S.ok gd w
  b16 : w.heap[g16]? = some (.cells #[.int .i64 S.s, .int .i64 S.f, .slice S.p S.n S.c] 30 (0, 0))
  b17 : w.heap[g17]? = some (.cells #[.int .i64 S.s, .int .i64 S.f, .slice S.p S.n S.c] 30 (0, 0))
  far : ∀ b off, S.p = some ⟨b, off, none⟩ → b < g16
  big : W.heap.size ≤ gd
  lt : gd < g16
  lt2 : g16 < g17
def Odd (W : World) (a : Option Addr) (len cap gd : Nat) (S : Sn) (g16 g17 : Nat) (w : World) : Prop :=
  ∃ o : Sn, Hid (o.ok gd w) ∧ Hid (w.heap[g17]? = some (.cells #[.int .i64 o.s, .int .i64 o.f, .slice o.p o.n o.c] 30 (0, 0))) ∧ Hid (w.heap[g16]? = some (.cells #[.int .i64 S.s, .int .i64 S.f, .slice S.p S.n S.c] 30 (0, 0))) ∧ Hid (Die W a len cap gd w) ∧ Hid (S.ok gd w) ∧ g17 < w.heap.size
theorem Bas.rolls {W : World} {a : Option Addr} {len cap gd : Nat} {S : Sn} {g16 g17 : Nat} {w w' : World} (h : Bas W a len cap gd S g16 g17 w) (hd : Die W a len cap gd w') (hr : Rolls gd w w') : Bas W a len cap gd S g16 g17 w' := by
  have l1 := h.lt
  have l2 := h.lt2
  exact ⟨hd, h.ok.rolls hr, (hr.block _ (Array.getElem?_eq_some_iff.1 h.b16).1 (by omega)).trans h.b16, (hr.block _ (Array.getElem?_eq_some_iff.1 h.b17).1 (by omega)).trans h.b17, h.far, h.big, h.lt, h.lt2⟩
theorem Bas.odd {W : World} {a : Option Addr} {len cap gd : Nat} {S : Sn} {g16 g17 : Nat} {w w' : World} (h : Bas W a len cap gd S g16 g17 w) (o : Sn) (ho : o.ok gd w) (hfar : ∀ b off, o.p = some ⟨b, off, none⟩ → o.n = 0 ∨ b ≠ g17) (hk : ∀ k, k ≠ g17 → w'.heap[k]? = w.heap[k]?) (hb : Below g17 w w') (h17 : w'.heap[g17]? = some (.cells #[.int .i64 o.s, .int .i64 o.f, .slice o.p o.n o.c] 30 (0, 0))) : Odd W a len cap gd S g16 g17 w' := by
  have l1 := h.lt
  have l2 := h.lt2
  have l3 := h.big
  refine ⟨o, ho.heap fun b off hp hl => (hfar b off hp).imp id (hk b), h17, (hk g16 (by omega)).trans h.b16, h.die.keepB' hb (by omega) (by omega), h.ok.heap fun b off hp hl => .inr (hk b (by have := h.far b off hp; omega)), (Array.getElem?_eq_some_iff.1 h17).1⟩
theorem Bas.same {W : World} {a : Option Addr} {len cap gd : Nat} {S : Sn} {g16 g17 : Nat} {w : World} (h : Bas W a len cap gd S g16 g17 w) : Odd W a len cap gd S g16 g17 w :=
  h.odd S h.ok (fun b off hp => .inr (by have := h.far b off hp; have := h.lt2; omega)) (fun _ _ => rfl) (Below.refl _ _) h.b17
theorem Bas.size {W : World} {a : Option Addr} {len cap gd : Nat} {S : Sn} {g16 g17 : Nat} {w : World} (h : Bas W a len cap gd S g16 g17 w) (v : Int) (hv : -9223372036854775808 ≤ v ∧ v ≤ 9223372036854775807) : Odd W a len cap gd S g16 g17 (w.setCell ⟨g17, 0, none⟩ (.int .i64 v)) :=
  h.odd ⟨v, S.f, S.p, S.n, S.c, S.D⟩ ⟨h.ok.1, h.ok.2.1, h.ok.2.2.1, h.ok.2.2.2.1, h.ok.2.2.2.2.1, hv, h.ok.2.2.2.2.2.2⟩ (fun b off hp => .inr (by have := h.far b off hp; have := h.lt2; omega)) (fun k hk => heap_set hk _) (below_at _ _ _ _) (by rw [setCell_row h.b17]; rfl)
theorem Bas.first {W : World} {a : Option Addr} {len cap gd : Nat} {S : Sn} {g16 g17 : Nat} {w : World} (h : Bas W a len cap gd S g16 g17 w) (v : Int) (hv : -9223372036854775808 ≤ v ∧ v ≤ 9223372036854775807) : Odd W a len cap gd S g16 g17 (w.setCell ⟨g17, 1, none⟩ (.int .i64 v)) :=
  h.odd ⟨S.s, v, S.p, S.n, S.c, S.D⟩ ⟨h.ok.1, h.ok.2.1, h.ok.2.2.1, h.ok.2.2.2.1, h.ok.2.2.2.2.1, h.ok.2.2.2.2.2.1, hv⟩ (fun b off hp => .inr (by have := h.far b off hp; have := h.lt2; omega)) (fun k hk => heap_set hk _) (below_at _ _ _ _) (by rw [setCell_row h.b17]; rfl)
theorem Bas.data {W : World} {a : Option Addr} {len cap gd : Nat} {S : Sn} {g16 g17 : Nat} {w : World} (h : Bas W a len cap gd S g16 g17 w) (p : Option Addr) (n c : Nat) (D : List ByteArray) (hr : StrRow w p n D) (hc : n ≤ c ∧ c ≤ 9223372036854775807) (hp : p = none → n = 0 ∧ c = 0) (hD : D.length ≤ 300) (hf : ∀ b off, p = some ⟨b, off, none⟩ → n = 0 ∨ g17 < b) : Odd W a len cap gd S g16 g17 (w.setCell ⟨g17, 2, none⟩ (.slice p n c)) :=
  h.odd ⟨S.s, S.f, p, n, c, D⟩ ⟨hr, hc, hp, hD, fun b off hp => (hf b off hp).imp id (fun hh => by have := h.lt; have := h.lt2; omega), h.ok.2.2.2.2.2⟩ (fun b off hp => (hf b off hp).imp id (fun hh => by omega)) (fun k hk => heap_set hk _) (below_at _ _ _ _) (by rw [setCell_row h.b17]; rfl)
theorem Bas.data2 {W : World} {a : Option Addr} {len cap gd : Nat} {S : Sn} {g16 g17 : Nat} {w : World} (h : Bas W a len cap gd S g16 g17 w) (v : Int) (hv : -9223372036854775808 ≤ v ∧ v ≤ 9223372036854775807) (p : Option Addr) (n c : Nat) (D : List ByteArray) (hr : StrRow w p n D) (hc : n ≤ c ∧ c ≤ 9223372036854775807) (hp : p = none → n = 0 ∧ c = 0) (hD : D.length ≤ 300) (hf : ∀ b off, p = some ⟨b, off, none⟩ → n = 0 ∨ g17 < b) : Odd W a len cap gd S g16 g17 ((w.setCell ⟨g17, 1, none⟩ (.int .i64 v)).setCell ⟨g17, 2, none⟩ (.slice p n c)) :=
  h.odd ⟨S.s, v, p, n, c, D⟩ ⟨hr, hc, hp, hD, fun b off hp => (hf b off hp).imp id (fun hh => by have := h.lt; have := h.lt2; omega), h.ok.2.2.2.2.2.1, hv⟩ (fun b off hp => (hf b off hp).imp id (fun hh => by omega)) (fun k hk => by rw [heap_set hk, heap_set hk]) (below_at2 _ _ _ _ _ _) (by rw [setCell_row (setCell_row h.b17 _)]; rfl)
theorem Bas.below {W : World} {a : Option Addr} {len cap gd : Nat} {S : Sn} {g16 g17 : Nat} {w w' : World} (h : Bas W a len cap gd S g16 g17 w) (hb : Below w.heap.size w w') : Bas W a len cap gd S g16 g17 w' := h.rolls (h.die.keep hb) (Rolls.of_below hb)
theorem Odd.drew {W : World} {a : Option Addr} {len cap gd : Nat} {S : Sn} {g16 g17 : Nat} {w : World} (h : Odd W a len cap gd S g16 g17 w) : Odd W a len cap gd S g16 g17 w.drew := by
  obtain ⟨o, h1, h2, h3, h4, h5, h6⟩ := h
  exact ⟨o, h1.keep (Below.refl _ _).drew, h2, h3, h4.drew, h5.keep (Below.refl _ _).drew, h6⟩
theorem aJ_length (s f : Int) (D : List ByteArray) (L : List (Int × Int)) (most : Int) : (aJ s f D L most).length ≤ D.length := by
  unfold aJ
  split
  · rw [List.length_take]; have := hits_length L f.toNat D.length; omega
  · simp
theorem pD_length (s f : Int) (D : List ByteArray) (x : ByteArray) : (pD s f D x).length ≤ D.length + 1 := by
  unfold pD
  split
  · split
    · rw [List.length_drop, List.length_append]; simp
    · rw [List.length_append]; simp
  · simp
/-- A later world: the dice lie as they lay, all else stays. -/
structure St (W : World) (a : Option Addr) (len cap gd : Nat) (V w : World) : Prop where
  die : Die W a len cap gd w
  roll : Rolls gd V w
section
variable {W : World} {a : Option Addr} {len cap gd : Nat} {V w w' : World}
theorem St.start (h : Die W a len cap gd V) : St W a len cap gd V V := ⟨h, Rolls.refl _ _⟩
theorem St.below (h : St W a len cap gd V w) (hb : Below w.heap.size w w') : St W a len cap gd V w' := ⟨h.die.keep hb, h.roll.trans (Rolls.of_below hb)⟩
theorem St.alloc (h : St W a len cap gd V w) (o : Obj) : St W a len cap gd V (w.alloc o) := h.below (below1 o)
theorem St.drew (h : St W a len cap gd V w) : St W a len cap gd V w.drew := h.below (Below.refl _ _).drew
theorem St.rolls (h : St W a len cap gd V w) (hd : Die W a len cap gd w') (hr : Rolls gd w w') : St W a len cap gd V w' := ⟨hd, h.roll.trans hr⟩
theorem St.trans (h : St W a len cap gd V w) (k : St W a len cap gd w w') : St W a len cap gd V w' := ⟨k.die, h.roll.trans k.roll⟩
theorem St.blk (h : St W a len cap gd V w) {g : Nat} {o : Obj} (hg : V.heap[g]? = some o) (hne : g ≠ gd) : w.heap[g]? = some o := (h.roll.block g (Array.getElem?_eq_some_iff.1 hg).1 hne).trans hg
theorem St.ok (h : St W a len cap gd V w) {y : Sn} (hy : y.ok gd V) : y.ok gd w := hy.rolls h.roll
theorem die_sp (h : Die W a len cap gd w) {p : Option Addr} {n : Nat} {L : List (Int × Int)} (hs : SpRow w p n L) : ∀ b off, p = some ⟨b, off, none⟩ → n = 0 ∨ b ≠ gd := by
  intro b off hp
  by_cases hn : n = 0
  · exact .inl hn
  right
  intro hbg
  obtain ⟨hl, h0 | ⟨b', off', hp', hc⟩⟩ := hs
  · exact hn h0
  rw [hp] at hp'
  injection hp' with hp'
  injection hp' with e1 e2
  subst e1
  subst e2
  obtain ⟨c1, c2⟩ := hc 0 (by omega)
  obtain ⟨i, -, hg⟩ := h.spot
  rw [hbg, cell_of_row _ _ _ _ _ _ hg] at c1 c2
  simp only [Nat.zero_mul, Nat.add_zero] at c1 c2
  match off, c1, c2 with
  | 0, c1, _ => simp at c1
  | 1, _, c2 => simp at c2
  | (k + 2), c1, _ => simp at c1
theorem St.sp (h : St W a len cap gd V w) (hd : Die W a len cap gd V) {p : Option Addr} {n : Nat} {L : List (Int × Int)} (hs : SpRow V p n L) : SpRow w p n L := hs.rolls h.roll (die_sp hd hs)
end
end Go.Proofs.Ytpniokkllkjhhaa
