/- Several texts as one (written by pack.py). -/
import Derived.Test.YthdgnfcbehcplaaGreatDoorCpA
import Derived.MapKept
import Derived.Carry
set_option linter.unusedVariables false
set_option linter.unusedSimpArgs false
set_option linter.unnecessarySimpa false
namespace Go.Proofs.YthdgnfcbehcplaaGreatDoor
section
open Go.RowKit
def JL : AV -> AV -> Bool
 | .v (.int _ a), .v (.int _ b) => a == b
 | .v (.string a), .v (.string b) => a == b
 | .v (.bool a), .v (.bool b) => a == b
 | _, _ => false
def jX : List AV -> List AV -> Bool
 | [], _ => true
 | k :: ks, c :: cs => (JL k c && jX ks cs)
 | _ :: _, [] => false
def Jm (key : List AV) : List (List AV) -> Option (List AV)
 | [] => none
 | r :: rs => match jX key r with
  | true => some r
  | false => Jm key rs
def zdi (key : List AV) (xs : List (List AV)) : Bool := (Jm key xs).isSome
def zdj (key : List AV) (xs : List (List AV)) : Option Int := match Jm key xs with
 | some r => (match r.drop key.length with | [.v (.int _ a)] => some a | _ => none)
 | none => none
def zbt (key row : List AV) : List (List AV) -> List (List AV)
 | [] => [row]
 | r :: rs => match jX key r with
  | true => row :: rs
  | false => r :: zbt key row rs
def kdA : Kd -> AV -> Bool
 | .int k, .v (.int k' _) => decide (k = k')
 | .str, .v (.string _) => true
 | .bool, .v (.bool _) => true
 | _, _ => false
def zaU : List Kd -> List AV -> Bool
 | [], [] => true
 | k :: ks, v :: vs => (match kdA k v with | true => zaU ks vs | false => false)
 | _, _ => false
def zge (T : Tab) (r : TypeId -> Option (List Kd)) : Nat -> List Field -> Option (List Kd)
 | _, [] => some []
 | off, fd :: l =>
  if fd.name = "_" then none else
  match Nat.beq fd.offset off, T.i fd.type, r fd.type with
  | true, some i, some ks =>
   (match Nat.beq ks.length i.1, zge T r (off + i.1) l with
   | true, some ks' => some (ks ++ ks')
   | _, _ => none)
  | _, _, _ => none
def Ji (T : Tab) : Nat -> TypeId -> Option (List Kd)
 | 0, _ => none
 | f + 1, t =>
  match T.u t with
  | some (.struct fs) => if T.q t = true then zge T (Ji T f) 0 fs.toList else none
  | some (.int k) => some [.int k]
  | some .string => some [.str]
  | some .bool => some [.bool]
  | _ => none
def zzt (T : Tab) (k e : TypeId) : Option MK :=
 match T.u k, T.u e, Ji T 20 k, Ji T 20 e with
 | some dk, some de, some ks, some vs => some ⟨zw dk, zw de, ks, vs⟩
 | _, _, _, _ => none
def zza (ag : Bool) (v : AV) : Option (List AV) := match ag, v with
 | true, .agg cs => some cs
 | false, .v x => some [.v x]
 | _, _ => none
def mpN (d : Nat) : Nat := 1500000 + d
def zAw (T : Tab) (s : AS) (d : Nat) (t : TypeId) : Option (List Wr) :=
 match T.u t with
 | some (.map k e) =>
  (match zzt T k e, Z8 (mpN d), s.bx (mpN d), s.tk (vk (mpN d)) with
  | some m, true, none, none => if s.nin <= mpN d then some [.box (mpN d) (some [.mp m []]), .env d (.mref (mpN d))] else none
  | _, _, _, _ => none)
 | _ => none
def zuM (m : MK) (z : Value) (ok : Bool) (key : List AV) (xs : List (List AV)) : Option AV :=
 match m.aV, m.vs, z, ok with
 | true, [], .agg ⟨[]⟩, true => some (.tup [.agg [], .v (.bool (zdi key xs))])
 | false, [.int k], .int k' c, true => if k = k' then some (.tup [.v (.int k ((zdj key xs).getD c)), .v (.bool (zdj key xs).isSome)]) else none
 | false, [.int k], .int k' c, false => if k = k' then some (.v (.int k ((zdj key xs).getD c))) else none
 | _, _, _, _ => none
def zi4 (T : Tab) (s : AS) (t : TypeId) (x ix : Operand) (ok : Bool) : Option AV :=
 match s.ev x, T.u t with
 | .mref b, some (.map k e) =>
  (match s.bx b, zzt T k e, T.zv e with
  | some [.mp m xs], some m', some z =>
   if m = m' then
    (match zza m.aK (s.ev ix) with
    | some key => (match zaU m.ks key with
     | true => zuM m z ok key xs
     | false => none)
    | none => none)
   else none
  | _, _, _ => none)
 | _, _ => none
def zqb (T : Tab) (s : AS) (t : TypeId) (x ix y : Operand) : Option (List Wr) :=
 match s.ev x, T.u t with
 | .mref b, some (.map k e) =>
  (match s.bx b, zzt T k e with
  | some [.mp m xs], some m' =>
   if m = m' then
    (match zza m.aK (s.ev ix), zza m.aV (s.ev y) with
    | some key, some val => (match zaU m.ks key, zaU m.vs val with
     | true, true => some [.box b (some [.mp m (zbt key (key ++ val) xs)])]
     | _, _ => none)
    | _, _ => none)
   else none
  | _, _ => none)
 | _, _ => none
section
variable {P : Program} {T : Tab} {B : Base} {M : Mem} {ρ : Rho} {σ : Sig} {s : AS} {a : Act} {w : World}
theorem ZI : ∀ {ks : List Kd} {cs : List AV}, zaU ks cs = true -> cs.length = ks.length
 | [], [], _ => rfl
 | [], _ :: _, h => by cases h
 | _ :: _, [], h => by cases h
 | k :: ks, v :: vs, h => by
  unfold zaU at h
  split at h
  ·simp [ZI h]
  ·cases h
theorem zbG : ∀ {k1 k2 : List Kd} {cs : List AV}, zaU (k1 ++ k2) cs = true -> zaU k1 (cs.take k1.length) = true /\ zaU k2 (cs.drop k1.length) = true
 | [], k2, cs, h => ⟨rfl, by simpa using h⟩
 | k :: k1, k2, [], h => by cases h
 | k :: k1, k2, v :: vs, h => by
  simp only [List.cons_append, zaU] at h
  split at h
  ·rename_i hk
   obtain ⟨h1, h2⟩ := zbG h
   exact ⟨by simp only [List.length_cons, List.take_succ_cons, zaU, hk]; exact h1, by simpa using h2⟩
  ·cases h
theorem ziZ : ∀ {ks : List Kd} {cs : List AV}, zaU ks cs = true -> ∃ vs : List Value, cs = vs.map .v /\ ZM ks vs = true
 | [], [], _ => ⟨[], rfl, rfl⟩
 | [], _ :: _, h => by cases h
 | _ :: _, [], h => by cases h
 | k :: ks, v :: cs, h => by
  unfold zaU at h
  split at h
  ·rename_i hk
   obtain ⟨vs, rfl, h2⟩ := ziZ h
   have hv : ∃ x, v = .v x /\ zpO k x = true := by
    unfold kdA at hk
    split at hk
    ·exact ⟨_, rfl, by simpa [zpO] using hk⟩
    ·exact ⟨_, rfl, rfl⟩
    ·exact ⟨_, rfl, rfl⟩
    ·cases hk
   obtain ⟨x, rfl, hx⟩ := hv
   exact ⟨x :: vs, rfl, by simp only [ZM, hx]; exact h2⟩
  ·cases h
theorem zzp {k : Kd} {x : Value} (h : zpO k x = true) : kdA k (.v x) = true := by
 unfold zpO at h
 split at h
 ·simpa [kdA] using h
 ·rfl
 ·rfl
 ·cases h
theorem Z9 : ∀ {ks : List Kd} {vs : List Value}, ZM ks vs = true -> zaU ks (vs.map .v) = true
 | [], [], _ => rfl
 | [], _ :: _, h => by cases h
 | _ :: _, [], h => by cases h
 | k :: ks, x :: vs, h => by
  unfold ZM at h
  split at h
  ·rename_i hk
   simp only [List.map_cons, zaU, zzp hk]
   exact Z9 h
  ·cases h
theorem zpP {k : Kd} {x : Value} (h : zpO k x = true) : x.oneCell' = true := by
 unfold zpO at h
 split at h
 ·rfl
 ·rfl
 ·rfl
 ·cases h
theorem zcP : ∀ {ks : List Kd} {vs : List Value}, ZM ks vs = true -> ∀ i (h : i < vs.length), (vs[i]).oneCell' = true
 | [], [], _, i, h => by cases h
 | [], _ :: _, h, _, _ => by cases h
 | _ :: _, [], h, _, _ => by cases h
 | k :: ks, x :: vs, h, i, hi => by
  unfold ZM at h
  split at h
  ·rename_i hk
   cases i with
   | zero => exact zpP hk
   | succ i => exact zcP h i (by simpa using hi)
  ·cases h
theorem ziN : ∀ (a b a' b' : List AV), a.length = a'.length -> jX (a ++ b) (a' ++ b') = (jX a a' && jX b b')
 | [], b, [], b', _ => by simp [jX]
 | [], _, _ :: _, _, h => by cases h
 | _ :: _, _, [], _, h => by cases h
 | x :: a, b, y :: a', b', h => by
  simp only [List.cons_append, jX]
  rw [ziN a b a' b' (by simpa using h), Bool.and_assoc]
theorem zpq {a b : ByteArray} (h : (a == b) = true) : a = b := by
 rw [beq_toListBytes] at h
 have h2 : a.toList = b.toList := by simpa using h
 rw [ByteArray.toList_eq, ByteArray.toList_eq] at h2
 cases a; cases b
 simp only at h2
 rw [Array.toList_inj.1 h2]
theorem zf9 : ∀ {ks : List Kd} {cs vs : List Value}, ZM ks cs = true -> ZM ks vs = true -> jX (cs.map .v) (vs.map .v) = true -> cs = vs
 | [], [], [], _, _, _ => rfl
 | [], _ :: _, _, h, _, _ => by cases h
 | [], _, _ :: _, _, h, _ => by cases h
 | _ :: _, [], _, h, _, _ => by cases h
 | _ :: _, _, [], _, h, _ => by cases h
 | k :: ks, x :: cs, y :: vs, h1, h2, h => by
  unfold ZM at h1 h2
  split at h1
  ·rename_i hk1
   split at h2
   ·rename_i hk2
    simp only [List.map_cons, jX, Bool.and_eq_true] at h
    have e := zf9 h1 h2 h.2
    have e0 : x = y := by
     have h0 := h.1
     unfold zpO at hk1 hk2
     split at hk1
     ·split at hk2
      ·rename_i q; cases q
       simp [JL] at h0 hk1 hk2
       subst hk1 hk2 h0; rfl
      ·rename_i q; cases q
      ·rename_i q; cases q
      ·cases hk2
     ·split at hk2
      ·rename_i q; cases q
      ·simp only [JL] at h0; rw [zpq h0]
      ·rename_i q; cases q
      ·cases hk2
     ·split at hk2
      ·rename_i q; cases q
      ·rename_i q; cases q
      ·simp [JL] at h0; rw [h0]
      ·cases hk2
     ·cases hk1
    rw [e, e0]
   ·cases h2
  ·cases h1
theorem zeZ : ∀ (key ck cv : List AV), key.length = ck.length -> jX key (ck ++ cv) = jX key ck
 | [], ck, cv, h => by simp [jX]
 | _ :: _, [], _, h => by cases h
 | x :: key, y :: ck, cv, h => by
  simp only [List.cons_append, jX]
  rw [zeZ key ck cv (by simpa using h)]
theorem zgf (r : TypeId -> Option (List Kd)) (q : TypeId -> List AV -> List AV -> Option Bool) (ih : ∀ t ks cx cy, r t = some ks -> zaU ks cx = true -> zaU ks cy = true -> q t cx cy = some (jX cx cy)) :
  ∀ (l : List Field) (off : Nat) (ks : List Kd) (cx cy : List AV), zge T r off l = some ks -> off <= cx.length -> off <= cy.length -> zaU ks (cx.drop off) = true -> zaU ks (cy.drop off) = true -> zvL T q cx cy l = some (jX (cx.drop off) (cy.drop off))
 | [], off, ks, cx, cy, h, l1, l2, h1, h2 => by
  cases h
  cases hx : cx.drop off with
  | nil => simp [zvL, jX]
  | cons => rw [hx] at h1; cases h1
 | fd :: l, off, ks, cx, cy, h, l1, l2, h1, h2 => by
  unfold zge at h
  split at h
  ·cases h
  ·rename_i hn
   split at h
   ·rename_i i k1 hoff hi hk1
    have hoff := Nat.eq_of_beq_eq_true hoff
    split at h
    ·rename_i k2 hlen hk2
     have hlen := Nat.eq_of_beq_eq_true hlen
     cases h
     obtain ⟨a1, a2⟩ := zbG h1
     obtain ⟨b1, b2⟩ := zbG h2
     have t1 := ZI a1
     have t2 := ZI b1
     simp only [List.length_take, List.length_drop] at t1 t2
     rw [hlen] at a1 a2 b1 b2 t1 t2
     rw [List.drop_drop] at a2 b2
     have e := ih fd.type k1 _ _ hk1 a1 b1
     have rest := zgf r q ih l (off + i.1) k2 cx cy hk2 (by omega) (by omega) a2 b2
     have sx : zoD T fd.type cx fd.offset = some ((cx.drop off).take i.1) := by
      unfold zoD
      rw [hi, hoff]
      simp only
      rw [if_pos (by omega)]
     have sy : zoD T fd.type cy fd.offset = some ((cy.drop off).take i.1) := by
      unfold zoD
      rw [hi, hoff]
      simp only
      rw [if_pos (by omega)]
     unfold zvL
     rw [if_neg hn, sx, sy]
     simp only [e, rest]
     have d1 : cx.drop off = (cx.drop off).take i.1 ++ cx.drop (off + i.1) := by rw [<- List.drop_drop, List.take_append_drop]
     have d2 : cy.drop off = (cy.drop off).take i.1 ++ cy.drop (off + i.1) := by rw [<- List.drop_drop, List.take_append_drop]
     have hh := ziN ((cx.drop off).take i.1) (cx.drop (off + i.1)) ((cy.drop off).take i.1) (cy.drop (off + i.1)) (by simp only [List.length_take, List.length_drop]; omega)
     rw [<- d1, <- d2] at hh
     rw [hh]
    ·cases h
   ·cases h
theorem ZJ {k : Kd} {cs : List AV} (h : zaU [k] cs = true) : ∃ x, cs = [x] /\ kdA k x = true := by
 match cs, h with
 | [x], h =>
  refine ⟨x, rfl, ?_⟩
  simp only [zaU] at h
  split at h
  ·assumption
  ·cases h
 | _ :: _ :: _, h =>
  simp only [zaU] at h
  split at h <;> cases h
theorem zfd {k : IntKind} {x : AV} (h : kdA (.int k) x = true) : ∃ n, x = .v (.int k n) := by
 unfold kdA at h
 split at h
 ·rename_i q; cases q
  have := of_decide_eq_true h
  subst this; exact ⟨_, rfl⟩
 ·rename_i q; cases q
 ·rename_i q; cases q
 ·cases h
theorem zhx {x : AV} (h : kdA .str x = true) : ∃ n, x = .v (.string n) := by
 unfold kdA at h
 split at h
 ·rename_i q; cases q
 ·exact ⟨_, rfl⟩
 ·rename_i q; cases q
 ·cases h
theorem zfc {x : AV} (h : kdA .bool x = true) : ∃ n, x = .v (.bool n) := by
 unfold kdA at h
 split at h
 ·rename_i q; cases q
 ·rename_i q; cases q
 ·exact ⟨_, rfl⟩
 ·cases h
theorem znv : ∀ (f : Nat) (t : TypeId) (ks : List Kd) (cx cy : List AV), Ji T f t = some ks -> zaU ks cx = true -> zaU ks cy = true -> eqT T f t cx cy = some (jX cx cy)
 | 0, t, ks, cx, cy, h, _, _ => by cases h
 | f + 1, t, ks, cx, cy, h, h1, h2 => by
  unfold Ji at h
  unfold eqT
  split at h
  ·rename_i fs hu
   split at h
   ·rename_i hq
    rw [hu]
    simp only
    rw [if_pos hq]
    have := zgf (T := T) (Ji T f) (eqT T f) (λ t ks cx cy a b c => znv f t ks cx cy a b c) fs.toList 0 ks cx cy h (Nat.zero_le _) (Nat.zero_le _) (by simpa using h1) (by simpa using h2)
    simpa using this
   ·cases h
  ·rename_i k0 hu
   cases h
   obtain ⟨x, rfl, hx⟩ := ZJ h1
   obtain ⟨y, rfl, hy⟩ := ZJ h2
   obtain ⟨n1, rfl⟩ := zfd hx
   obtain ⟨n2, rfl⟩ := zfd hy
   rw [hu]
   simp [zw, eq1, jX, JL]
  ·rename_i hu
   cases h
   obtain ⟨x, rfl, hx⟩ := ZJ h1
   obtain ⟨y, rfl, hy⟩ := ZJ h2
   obtain ⟨n1, rfl⟩ := zhx hx
   obtain ⟨n2, rfl⟩ := zhx hy
   rw [hu]
   simp [zw, eq1, jX, JL]
  ·rename_i hu
   cases h
   obtain ⟨x, rfl, hx⟩ := ZJ h1
   obtain ⟨y, rfl, hy⟩ := ZJ h2
   obtain ⟨n1, rfl⟩ := zfc hx
   obtain ⟨n2, rfl⟩ := zfc hy
   rw [hu]
   simp [zw, eq1, jX, JL]
  ·cases h
theorem ziD (hT : TabOk P T) (em : Bool) : ∀ (f : Nat) (t : TypeId) (ks : List Kd), Ji T f t = some ks -> ∃ d0, P.underlying t = some d0 /\ T.u t = some d0 /\ (zw d0 = false -> ks.length = 1) /\ ∀ n, f <= n -> ∀ v cs, zaU ks cs = true -> EqV M ρ σ d0 v cs -> (Instr.checkKey em n t v).run P w = .ok () w
 | 0, t, ks, h => by cases h
 | f + 1, t, ks, h => by
  unfold Ji at h
  split at h
  ·rename_i fs hu
   split at h
   ·rename_i hq
    refine ⟨_, hT.u _ _ hu, hu, (λ (hh : zw (.struct fs) = false) => by simp [zw] at hh), λ n hn v cs hk hv => ?_⟩
    obtain ⟨n', rfl⟩ : ∃ n', n = n' + 1 := ⟨n - 1, by omega⟩
    obtain ⟨xs, rfl, px⟩ := hv.1 rfl
    unfold Instr.checkKey
    simp only [Sem.run_bind, run_underlying (hT.u _ _ hu), Result.andThen_ok]
    rw [<- Array.forIn_toList]
    have hk0 : zaU ks (cs.drop 0) = true := by simpa using hk
    have h0 : 0 <= cs.length := Nat.zero_le _
    clear hk hv
    generalize 0 = off at h hk0 h0
    generalize fs.toList = L at h
    induction L generalizing off ks with
    | nil => simp
    | cons fd l ih =>
     unfold zge at h
     split at h
     ·cases h
     ·rename_i hnm
      split at h
      ·rename_i i k1 hoff hi hk1
       have hoff := Nat.eq_of_beq_eq_true hoff
       split at h
       ·rename_i k2 hlen hk2
        have hlen := Nat.eq_of_beq_eq_true hlen
        cases h
        obtain ⟨a1, a2⟩ := zbG hk0
        have t1 := ZI a1
        simp only [List.length_take, List.length_drop] at t1
        rw [hlen] at a1 a2 t1
        rw [List.drop_drop] at a2
        have sx : zoD T fd.type cs fd.offset = some ((cs.drop off).take i.1) := by
         unfold zoD
         rw [hi, hoff]
         simp only
         rw [if_pos (by omega)]
        obtain ⟨d1, u1, u2, u3, u4⟩ := ziD hT em f fd.type k1 hk1
        obtain ⟨va, q1⟩ := zc8 (w := w) hT u1 px sx
        have hval : (part fd.type xs fd.offset).run P w = .ok va w /\ EqV M ρ σ d1 va ((cs.drop off).take i.1) := by
         rcases q1 with ⟨q1, q1a, q1b⟩ | ⟨n1, n2⟩
         ·exact ⟨q1, λ h => (q1a h).1 h, q1b⟩
         ·exfalso
          have e1 : ((cs.drop off).take i.1).length = 1 := by
           have := u3 n1
           simp only [List.length_take, List.length_drop]; omega
          obtain ⟨x, hx⟩ := List.length_eq_one_iff.1 e1
          exact n2 x hx
        have r2 := u4 n' (by omega) va _ a1 hval.2
        simp only [List.forIn_cons, Sem.run_bind, hnm, ne_eq, not_false_eq_true, if_true, Result.andThen_ok, hval.1, r2, Sem.run_pure]
        exact ih k2 (off + i.1) a2 (by omega) hk2
       ·cases h
      ·cases h
   ·cases h
  all_goals first
   | (rename_i hu
      cases h
      refine ⟨_, hT.u _ _ hu, hu, λ _ => rfl, λ n hn v cs hk hv => ?_⟩
      obtain ⟨n', rfl⟩ : ∃ n', n = n' + 1 := ⟨n - 1, by omega⟩
      unfold Instr.checkKey
      simp only [Sem.run_bind, run_underlying (hT.u _ _ hu), Result.andThen_ok]
      rfl)
   | (cases h; done)
theorem zfb (hT : TabOk P T) {f : Nat} {t : TypeId} {ks : List Kd} (h : Ji T f t = some ks) : ∃ d0, P.underlying t = some d0 /\ T.u t = some d0 /\ (zw d0 = false -> ks.length = 1) := by
 obtain ⟨d0, h1, h2, h3, -⟩ := ziD (M := λ _ _ => none) (ρ := JD) (σ := jE) (w := default) hT false f t ks h
 exact ⟨d0, h1, h2, h3⟩
theorem ziP {d0 : TypeDesc} {ks : List Kd} {vs : List Value} (hr : zw d0 = false -> ks.length = 1) (h : ZM ks vs = true) : EqV M ρ σ d0 (jU (zw d0) vs) (vs.map .v) := by
 refine ⟨λ e => ?_, λ e x hx => ?_⟩
 ·rw [e]
  refine ⟨vs.toArray, rfl, by simp, λ i hi => ?_, λ i hi hi' => ?_⟩
  ·have := zcP h i (by simpa using hi)
   simpa using this
  ·simp only [List.getElem_toArray, List.getElem_map]; exact .v
 ·rw [e]
  match vs, hx with
  | [c], hx => cases hx; exact .v
theorem J1 : ∀ {ks : List Kd} {vs : List Value}, ZM ks vs = true -> ∀ n, (vs.zip vs).all (λ x => Instr.sameBits n x.1 x.2) = true
 | [], [], _, n => rfl
 | [], _ :: _, h, _ => by cases h
 | _ :: _, [], h, _ => by cases h
 | k :: ks, x :: vs, h, n => by
  unfold ZM at h
  split at h
  ·rename_i hk
   simp only [List.zip_cons_cons, List.all_cons, Bool.and_eq_true]
   refine ⟨?_, J1 h n⟩
   unfold zpO at hk
   split at hk
   ·unfold Instr.sameBits; cases n <;> simp
   ·unfold Instr.sameBits; cases n <;> simp [beq_toListBytes]
   ·unfold Instr.sameBits; cases n <;> simp
   ·cases hk
  ·cases h
theorem zqu {ag : Bool} {ks : List Kd} {vs : List Value} (ha : ag = false -> ks.length = 1) (h : ZM ks vs = true) : (Instr.keyThatStays (jU ag vs) (jU ag vs)).run P w = .ok (jU ag vs) w := by
 have e : Instr.sameBits 10000 (jU ag vs) (jU ag vs) = true := by
  cases ag with
  | true =>
   have := J1 h 9999
   show Instr.sameBits (9999 + 1) (.agg vs.toArray) (.agg vs.toArray) = true
   unfold Instr.sameBits
   simp only [Bool.and_eq_true]
   exact ⟨by simp, this⟩
  | false =>
   have hl := ha rfl
   match ks, vs, h with
   | [k], [x], h =>
    have := J1 h 10000
    simpa [jU] using this
   | [k], [], h => cases h
   | [k], _ :: _ :: _, h =>
    simp only [ZM] at h
    split at h <;> cases h
   | [], _, _ => cases hl
   | _ :: _ :: _, _, _ => simp at hl
 simp [Instr.keyThatStays, e]
theorem zpD (hT : TabOk P T) {k : TypeId} {dk : TypeDesc} {ks : List Kd} (hu : P.underlying k = some dk) (hk : Ji T 20 k = some ks) {c1 c2 : List Value} (h1 : ZM ks c1 = true) (h2 : ZM ks c2 = true) :
  (Op.equal k (jU (zw dk) c1) (jU (zw dk) c2)).run P w = .ok (jX (c1.map .v) (c2.map .v)) w := by
 have he := znv 20 k ks _ _ hk (Z9 h1) (Z9 h2)
 obtain ⟨d0, u1, u2, u3⟩ := ziO (M := λ _ _ => none) (ρ := JD) (σ := jE) (w := w) hT 20 k _ _ _ he
 obtain ⟨d0', v1, v2, v3⟩ := zfb hT hk
 rw [hu] at u1 v1
 cases u1; cases v1
 exact u3 10000 (by omega) _ _ (ziP v3 h1) (ziP v3 h2)
def Fnd (key : List AV) (rows : List (List Value)) (es : List MapEntry) (i0 : Nat) (res : Option (Nat × Value)) : Prop :=
 (res = none /\ Jm key (rows.map (·.map .v)) = none /\ ∀ row, zbt key row (rows.map (·.map .v)) = rows.map (·.map .v) ++ [row]) \/
 ∃ j e r, es[j]? = some e /\ rows[j]? = some r /\ res = some (i0 + j, e.val) /\ jX key (r.map .v) = true /\ Jm key (rows.map (·.map .v)) = some (r.map .v) /\ ∀ row, zbt key row (rows.map (·.map .v)) = (rows.map (·.map .v)).set j row
theorem Fnd.nil (key : List AV) (i0 : Nat) : Fnd key [] [] i0 none := .inl ⟨rfl, rfl, λ _ => rfl⟩
theorem Fnd.hit {key : List AV} {r : List Value} {e : MapEntry} (rows : List (List Value)) (es : List MapEntry) (i0 : Nat) (h : jX key (r.map .v) = true) : Fnd key (r :: rows) (e :: es) i0 (some (i0, e.val)) :=
 .inr ⟨0, e, r, rfl, rfl, rfl, h, by simp [Jm, h], λ row => by simp [zbt, h]⟩
theorem Fnd.miss {key : List AV} {r : List Value} {e : MapEntry} {rows : List (List Value)} {es : List MapEntry} {i0 : Nat} {res : Option (Nat × Value)} (h : jX key (r.map .v) = false) (t : Fnd key rows es (i0 + 1) res) : Fnd key (r :: rows) (e :: es) i0 res := by
 rcases t with ⟨h1, h2, h3⟩ | ⟨j, e', r', h1, h2, h3, h4, h5, h6⟩
 ·exact .inl ⟨h1, by simp [Jm, h, h2], λ row => by simp [zbt, h, h3]⟩
 ·exact .inr ⟨j + 1, e', r', by simpa using h1, by simpa using h2, by rw [h3]; congr 2; omega, h4, by simp [Jm, h, h5], λ row => by simp [zbt, h, h6]⟩
theorem zzA {dk : TypeDesc} {k : TypeId} (hu : T.u k = some dk) {ks : List Kd} (hk : Ji T 20 k = some ks) (hr : zw dk = false) {ck : List Value} (hck : ZM ks ck = true) {d : MK} (hd : d.ks = ks) (ha : d.aK = false) :
  ∀ {rows : List (List Value)} {es : List MapEntry}, Rows d rows es -> ∀ i, ∃ res, Instr.findNow dk (jU false ck) es i = some res /\ Fnd (ck.map .v) rows es i res := by
 intro rows es hR
 have shape : ∀ c, ZM ks c = true -> (∃ q n, dk = .int q /\ c = [.int q n]) \/ (∃ b, dk = .string /\ c = [.string b]) \/ ∃ b, dk = .bool /\ c = [.bool b] := λ c hc => by
  have hA := Z9 hc
  unfold Ji at hk
  rw [hu] at hk
  split at hk
  ·rename_i q; cases q; simp [zw] at hr
  ·rename_i q; cases q; cases hk
   obtain ⟨x, e, hx⟩ := ZJ hA
   obtain ⟨n, rfl⟩ := zfd hx
   match c, e with
   | [_], e => cases e; exact .inl ⟨_, n, rfl, rfl⟩
  ·rename_i q; cases q; cases hk
   obtain ⟨x, e, hx⟩ := ZJ hA
   obtain ⟨n, rfl⟩ := zhx hx
   match c, e with
   | [_], e => cases e; exact .inr (.inl ⟨n, rfl, rfl⟩)
  ·rename_i q; cases q; cases hk
   obtain ⟨x, e, hx⟩ := ZJ hA
   obtain ⟨n, rfl⟩ := zfc hx
   match c, e with
   | [_], e => cases e; exact .inr (.inr ⟨n, rfl, rfl⟩)
  ·cases hk
 induction hR with
 | nil => intro i; exact ⟨none, rfl, .nil _ _⟩
 | @cons r e rs es h t ih =>
  intro i
  obtain ⟨ck', cv', q1, q2, q3, q4, q5⟩ := h
  rw [hd] at q2
  rw [ha] at q4
  subst q1
  have go : ∀ b : Bool, jX (ck.map .v) ((ck' ++ cv').map .v) = b -> Instr.sameNow dk (jU false ck) (jU false ck') = some b -> ∃ res, Instr.findNow dk (jU false ck) (e :: es) i = some res /\ Fnd (ck.map .v) ((ck' ++ cv') :: rs) (e :: es) i res := λ b hb hs => by
   unfold Instr.findNow
   rw [q4, hs]
   cases b with
   | true => exact ⟨_, rfl, .hit _ _ _ hb⟩
   | false =>
    obtain ⟨res, r1, r2⟩ := ih (i + 1)
    exact ⟨res, r1, .miss hb r2⟩
  rcases shape ck hck with ⟨q, n, rfl, rfl⟩ | ⟨b, rfl, rfl⟩ | ⟨b, rfl, rfl⟩
  ·rcases shape ck' q2 with ⟨q', n', e0, rfl⟩ | ⟨b', e0, rfl⟩ | ⟨b', e0, rfl⟩
   ·cases e0
    exact go (n == n') (by simp [jX, JL]) (by simp [jU, Instr.sameNow])
   ·cases e0
   ·cases e0
  ·rcases shape ck' q2 with ⟨q', n', e0, rfl⟩ | ⟨b', e0, rfl⟩ | ⟨b', e0, rfl⟩
   ·cases e0
   ·exact go (b == b') (by simp [jX, JL]) (by simp [jU, Instr.sameNow])
   ·cases e0
  ·rcases shape ck' q2 with ⟨q', n', e0, rfl⟩ | ⟨b', e0, rfl⟩ | ⟨b', e0, rfl⟩
   ·cases e0
   ·cases e0
   ·exact go (b == b') (by simp [jX, JL]) (by simp [jU, Instr.sameNow])
theorem zyS (hT : TabOk P T) {dk : TypeDesc} {k : TypeId} (hu : P.underlying k = some dk) {ks : List Kd} (hk : Ji T 20 k = some ks) {ck : List Value} (hck : ZM ks ck = true) {d : MK} (hd : d.ks = ks) (ha : d.aK = zw dk) :
  ∀ {rows : List (List Value)} {es : List MapEntry}, Rows d rows es -> ∀ i, ∃ res, (Instr.findAsking k (jU (zw dk) ck) es i).run P w = .ok res w /\ Fnd (ck.map .v) rows es i res := by
 intro rows es hR
 induction hR with
 | nil => intro i; exact ⟨none, rfl, .nil _ _⟩
 | @cons r e rs es h t ih =>
  intro i
  obtain ⟨ck', cv', q1, q2, q3, q4, q5⟩ := h
  rw [hd] at q2
  rw [ha] at q4
  subst q1
  have he := zpD (w := w) hT hu hk hck q2
  have hlen : (ck.map AV.v).length = (ck'.map AV.v).length := by rw [ZI (Z9 hck), ZI (Z9 q2)]
  have hpre : jX (ck.map .v) ((ck' ++ cv').map .v) = jX (ck.map .v) (ck'.map .v) := by rw [List.map_append]; exact zeZ _ _ _ hlen
  unfold Instr.findAsking
  rw [Sem.run_bind, q4, he]
  simp only [Result.andThen_ok]
  cases hb : jX (ck.map AV.v) (ck'.map AV.v) with
  | true => exact ⟨_, rfl, .hit _ _ _ (by rw [hpre, hb])⟩
  | false =>
   obtain ⟨res, r1, r2⟩ := ih (i + 1)
   exact ⟨res, by simpa using r1, .miss (by rw [hpre, hb]) r2⟩
theorem zns (hT : TabOk P T) {dk : TypeDesc} {k : TypeId} (hu : T.u k = some dk) {ks : List Kd} (hk : Ji T 20 k = some ks) {ck : List Value} (hck : ZM ks ck = true) {d : MK} (hd : d.ks = ks) (ha : d.aK = zw dk) {rows : List (List Value)} {es : List MapEntry} (hR : Rows d rows es) :
  ∃ res, (Instr.findKey k (jU (zw dk) ck) es).run P w = .ok res w /\ Fnd (ck.map .v) rows es 0 res := by
 have hu' := hT.u _ _ hu
 unfold Instr.findKey
 simp only [Sem.run_bind, run_underlying hu', Result.andThen_ok]
 cases hr : zw dk with
 | false =>
  obtain ⟨res, h1, h2⟩ := zzA hu hk hr hck hd (by rw [ha, hr]) hR 0
  rw [h1]
  exact ⟨res, rfl, h2⟩
 | true =>
  have hnow : ∀ e es', Instr.findNow dk (jU true ck) (e :: es') 0 = none := λ e es' => by
   unfold Ji at hk
   rw [hu] at hk
   split at hk
   ·rename_i q; cases q
    unfold Instr.findNow
    have : ∀ fs, Instr.sameNow (.struct fs) (jU true ck) e.key = none := λ _ => rfl
    rw [this]
   ·rename_i q; cases q; cases hr
   ·rename_i q; cases q; cases hr
   ·rename_i q; cases q; cases hr
   ·cases hk
  cases hR with
  | nil => exact ⟨none, rfl, .nil _ _⟩
  | cons h t =>
   rw [hnow]
   have := zyS (w := w) hT hu' hk hck hd ha (.cons h t) 0
   rw [hr] at this
   exact this
theorem zi5 (hT : TabOk P T) {k e : TypeId} {m : MK} (h : zzt T k e = some m) : ∃ dk de, T.u k = some dk /\ T.u e = some de /\ Ji T 20 k = some m.ks /\ Ji T 20 e = some m.vs /\ m.aK = zw dk /\ m.aV = zw de /\ (m.aK = false -> m.ks.length = 1) /\ (m.aV = false -> m.vs.length = 1) := by
 unfold zzt at h
 split at h
 ·rename_i dk de ks vs h1 h2 h3 h4
  cases h
  obtain ⟨d0, u1, u2, u3⟩ := zfb hT h3
  obtain ⟨d1, v1, v2, v3⟩ := zfb hT h4
  rw [h1] at u2; cases u2
  rw [h2] at v2; cases v2
  exact ⟨dk, de, h1, h2, h3, h4, rfl, rfl, u3, v3⟩
 ·cases h
theorem zhl {ag : Bool} {ks : List Kd} {c : Value} {v : AV} {cs : List AV} (hr : Rd M ρ σ c v) (h : zza ag v = some cs) (hk : zaU ks cs = true) : ∃ vs, cs = vs.map .v /\ ZM ks vs = true /\ c = jU ag vs := by
 obtain ⟨vs, rfl, h2⟩ := ziZ hk
 refine ⟨vs, rfl, h2, ?_⟩
 unfold zza at h
 split at h
 ·cases h
  cases hr with
  | @agg _ _ xs _ hl h1 hr =>
   have e : xs = vs.toArray := by
    refine Array.ext (by simpa using hl) λ i hi hi' => ?_
    have := hr i hi (by simpa using hi')
    rw [List.getElem_map] at this
    rw [this.v_inv]
    simp
   rw [e]; rfl
 ·rename_i x
  match vs, h with
  | [y], h =>
   cases h
   exact hr.v_inv
 ·cases h
theorem zuX {ag : Bool} {ks : List Kd} {vs : List Value} (h : ZM ks vs = true) (ha : ag = true) : Rd M ρ σ (jU ag vs) (.agg (vs.map .v)) := by
 subst ha
 refine .agg (by simp) (λ i hi => ?_) (λ i hi hi' => ?_)
 ·have := zcP h i (by simpa using hi)
  simpa using this
 ·simp only [List.getElem_toArray, List.getElem_map]; exact .v
theorem Rows.at {d : MK} {rows : List (List Value)} {es : List MapEntry} (h : Rows d rows es) : ∀ (j : Nat) (r : List Value) (e : MapEntry), rows[j]? = some r -> es[j]? = some e -> zmZ d r e := by
 induction h with
 | nil => intro j r e h; simp at h
 | cons h t ih =>
  intro j r e h1 h2
  cases j with
  | zero => simp at h1 h2; subst h1 h2; exact h
  | succ j => exact ih j r e (by simpa using h1) (by simpa using h2)
theorem Rows.set {d : MK} {rows : List (List Value)} {es : List MapEntry} (h : Rows d rows es) : ∀ (j : Nat) (r : List Value) (e : MapEntry), zmZ d r e -> Rows d (rows.set j r) (es.set j e) := by
 induction h with
 | nil => intro j r e h; exact .nil
 | cons h t ih =>
  intro j r e hr
  cases j with
  | zero => exact .cons hr t
  | succ j => exact .cons h (ih j r e hr)
theorem Rows.push {d : MK} {rows : List (List Value)} {es : List MapEntry} (h : Rows d rows es) (r : List Value) (e : MapEntry) (hr : zmZ d r e) : Rows d (rows ++ [r]) (es ++ [e]) := by
 induction h with
 | nil => exact .cons hr .nil
 | cons h t ih => exact .cons h ih
theorem Rd.no_mp {c : Value} {d : MK} {xs : List (List AV)} (h : Rd M ρ σ c (.mp d xs)) : False := by cases h
theorem SimW.mapAt (h : SimW B M ρ σ s a w) {b g : Nat} {m : MK} {xs : List (List AV)} (hb : s.bx b = some [.mp m xs]) (hg : ρ b = some g) : MapAt w g m xs /\ Z8 b = true := by
 rcases h.box b _ hb with ⟨e, -⟩ | ⟨g', q1, q2, -⟩
 ·cases e
 ·rw [hg] at q1; cases q1
  rcases q2 with ⟨ccs, t, -, z2, -, z4⟩ | ⟨hm, d, xs', e, hma⟩
  ·have := z4 0 (by simp at z2; omega) (by simp)
   simp only [List.getElem_cons_zero] at this
   exact this.no_mp.elim
  ·cases e; exact ⟨hma, hm⟩
theorem zpW (hT : TabOk P T) (h : SimW B M ρ σ s a w) {o : Oper} {t : TypeId} {d : Nat} (ho : o.op = .makeMap t none) (hd : o.dst = some d) {W : List Wr} (hs : zAw T s d t = some W) (K : Act -> World -> Prop) (Q : Exit -> Act -> World -> Prop) (hK : ∀ a' w', Sim B (s.aps W) a' w' -> K a' w') : o.wp P a w K Q := by
 unfold zAw at hs
 split at hs
 ·rename_i k e hu
  split at hs
  ·rename_i m hm hmap hb ht
   split at hs
   ·rename_i hni
    cases hs
    refine Zc (v := .map (some w.heap.size)) (w' := w.alloc (.map #[] 0)) ?_ (hK _ _ ?_)
    ·unfold execOp
     simp only [ho, Option.map_none, Sem.run_bind, run_makeMap, Result.andThen_ok, Sem.run_pure]
    ·rw [hd]
     have hma : MapAt (w.alloc (.map #[] 0)) w.heap.size m [] := ⟨#[], 0, [], (MapKept.heap_alloc w _).1, rfl, .nil⟩
     have h1 := (h.alloc (.map #[] 0)).adopt (mpN d) hni hb ht w.heap.size [.mp m []] (.inr ⟨hmap, m, [], rfl, hma⟩) (λ o => h.free (Nat.le_refl _) o) h.size (λ b _ e => Nat.lt_irrefl _ (h.rlt b _ e)) (λ t sp _ h2 e => by have := (h.cap t sp h2).lt; omega)
     exact ⟨M, _, σ, h1.put (.mref (by simp [zam])) d⟩
   ·cases hs
  ·cases hs
 ·cases hs
theorem znP {m : MK} {z : Value} {ok : Bool} {key : List AV} {xs : List (List AV)} {v : AV} (h : zuM m z ok key xs = some v) :
  (m.aV = true /\ m.vs = [] /\ z = .agg #[] /\ ok = true /\ v = .tup [.agg [], .v (.bool (zdi key xs))]) \/
  (∃ k c, m.aV = false /\ m.vs = [.int k] /\ z = .int k c /\ ok = true /\ v = .tup [.v (.int k ((zdj key xs).getD c)), .v (.bool (zdj key xs).isSome)]) \/
  (∃ k c, m.aV = false /\ m.vs = [.int k] /\ z = .int k c /\ ok = false /\ v = .v (.int k ((zdj key xs).getD c))) := by
 unfold zuM at h
 split at h
 ·rename_i q1 q2
  cases h
  exact .inl ⟨q1, q2, rfl, rfl, rfl⟩
 ·rename_i q1 q2
  split at h
  ·rename_i e; subst e
   cases h
   exact .inr (.inl ⟨_, _, q1, q2, rfl, rfl, rfl⟩)
  ·cases h
 ·rename_i q1 q2
  split at h
  ·rename_i e; subst e
   cases h
   exact .inr (.inr ⟨_, _, q1, q2, rfl, rfl, rfl⟩)
  ·cases h
 ·cases h
def resV (z : Value) : Option (Nat × Value) -> Value × Bool
 | some p => (p.2, true)
 | none => (z, false)
theorem zhA (hT : TabOk P T) (h : SimW B M ρ σ s a w) {o : Oper} {t : TypeId} {x ix : Operand} {ok : Bool} (ho : o.op = .lookup t x ix ok) {v : AV} (hv : zi4 T s t x ix ok = some v) : Ze P M ρ σ a w o v := by
 unfold zi4 at hv
 have hx := h.ev x
 have hi := h.ev ix
 split at hv
 ·rename_i b k e hxe hu
  rw [hxe] at hx
  split at hv
  ·rename_i m xs m' z hb hm hz
   split at hv
   ·rename_i hmm
    subst hmm
    split at hv
    ·rename_i key hkey
     split at hv
     ·rename_i hkd
      obtain ⟨dk, de, e1, e2, e3, e4, e5, e6, e7, e8⟩ := zi5 hT hm
      generalize hq : a.eval x = xv at hx
      cases hx with
      | @mref _ _ _ g hg =>
      obtain ⟨⟨es, clock, rows, g1, g2, g3⟩, -⟩ := h.mapAt hb hg
      subst g2
      obtain ⟨ck, rfl, c1, c2⟩ := zhl hi hkey hkd
      obtain ⟨res, f1, f2⟩ := zns (w := w) hT e1 e3 c1 (d := m) rfl e5 g3
      have chk : ∀ em, (Instr.checkKey em 10000 k (jU (zw dk) ck)).run P w = .ok () w := λ em => by
       obtain ⟨d0, u1, u2, u3, u4⟩ := ziD (M := M) (ρ := ρ) (σ := σ) (w := w) hT em 20 k m.ks e3
       rw [e1] at u2; cases u2
       exact u4 10000 (by omega) _ _ hkd (ziP u3 c1)
      have z1 : (zeroValue e).run P w = .ok z w := by
       obtain ⟨i, q1, q2⟩ := hT.zv _ _ hz
       simp [zeroValue, ZZ q1, q2]
      have hrun : ∀ r : Value, ∀ p : Value × Bool, resV z res = p -> (if ok = true then Value.tuple #[p.1, .bool p.2] else p.1) = r -> (execOp a.eval o).run P w = .ok (.value r) w := λ r p hp hr => by
       unfold execOp
       simp only [ho, hq, c2, e5, Instr.lookup, Sem.run_bind, run_underlying (hT.u _ _ hu), MapKept.run_getObj_map g1, Result.andThen_ok, Sem.run_pure, chk, f1]
       cases res with
       | none => simp only [Sem.run_bind, z1, Sem.run_pure, Result.andThen_ok]; subst hp; rw [<- hr]; rfl
       | some q => simp only [Sem.run_bind, Sem.run_pure, Result.andThen_ok]; subst hp; rw [<- hr]; rfl
      have hkl : ∀ c', ZM m.ks c' = true -> (ck.map AV.v).length = (c'.map AV.v).length := λ c' h' => by rw [ZI (Z9 c1), ZI (Z9 h')]
      rcases znP hv with ⟨v1, v2, v3, v4, v5⟩ | ⟨k', n, v1, v2, v3, v4, v5⟩ | ⟨k', n, v1, v2, v3, v4, v5⟩
      ·subst v5
       rcases f2 with ⟨r1, r2, -⟩ | ⟨j, e', r, r1, r2, r3, r4, r5, -⟩
       ·refine ⟨_, hrun _ (z, false) (by rw [r1]; rfl) (by rw [v4, if_pos rfl]), .tup (by simp) λ i x y => ?_⟩
        match i with
        | 0 =>
         simp only [List.getElem_toArray, List.getElem_cons_zero]
         rw [v3]
         exact .agg rfl (λ i h => by cases h) (λ i h => by cases h)
        | 1 => simp only [zdi, r2, Option.isSome_none]; exact .v
       ·obtain ⟨ck', cv', p1, p2, p3, p4, p5⟩ := g3.at j r e' r2 r1
        refine ⟨_, hrun _ (e'.val, true) (by rw [r3]; rfl) (by rw [v4, if_pos rfl]), .tup (by simp) λ i x y => ?_⟩
        match i with
        | 0 =>
         simp only [List.getElem_toArray, List.getElem_cons_zero]
         rw [p5]
         have := zuX (M := M) (ρ := ρ) (σ := σ) p3 v1
         rw [v2] at p3
         match cv', p3 with
         | [], _ => exact this
        | 1 => simp only [zdi, r5, Option.isSome_some]; exact .v
      all_goals
       have key : (zdj (ck.map .v) (rows.map (·.map .v)) = none /\ res = none) \/ ∃ i n', zdj (ck.map .v) (rows.map (·.map .v)) = some n' /\ res = some (i, .int k' n') := by
        rcases f2 with ⟨r1, r2, -⟩ | ⟨j, e', r, r1, r2, r3, r4, r5, -⟩
        ·exact .inl ⟨by simp [zdj, r2], r1⟩
        ·obtain ⟨ck', cv', p1, p2, p3, p4, p5⟩ := g3.at j r e' r2 r1
         rw [v2] at p3
         obtain ⟨x, ex, hx⟩ := ZJ (Z9 p3)
         obtain ⟨n', rfl⟩ := zfd hx
         match cv', ex with
         | [_], ex =>
          cases ex
          refine .inr ⟨_, n', ?_, by rw [r3, p5, v1]; rfl⟩
          simp only [zdj, r5, p1]
          rw [List.map_append, hkl ck' p2, List.drop_left]
          rfl
       subst v5
      ·rcases key with ⟨r1, r2⟩ | ⟨i, n', r1, r2⟩
       ·refine ⟨_, hrun _ (z, false) (by rw [r2]; rfl) (by rw [v4, if_pos rfl]), .tup (by simp) λ i x y => ?_⟩
        match i with
        | 0 => simp only [List.getElem_toArray, List.getElem_cons_zero, v3, r1, Option.getD_none]; exact .v
        | 1 => simp only [r1, Option.isSome_none]; exact .v
       ·refine ⟨_, hrun _ (.int k' n', true) (by rw [r2]; rfl) (by rw [v4, if_pos rfl]), .tup (by simp) λ i x y => ?_⟩
        match i with
        | 0 => simp only [List.getElem_toArray, List.getElem_cons_zero, r1, Option.getD_some]; exact .v
        | 1 => simp only [r1, Option.isSome_some]; exact .v
      ·rcases key with ⟨r1, r2⟩ | ⟨i, n', r1, r2⟩
       ·refine ⟨_, hrun _ (z, false) (by rw [r2]; rfl) (by rw [v4]), ?_⟩
        simp only [v3, r1, Option.getD_none]; exact .v
       ·refine ⟨_, hrun _ (.int k' n', true) (by rw [r2]; rfl) (by rw [v4]), ?_⟩
        simp only [r1, Option.getD_some]; exact .v
     ·cases hv
    ·cases hv
   ·cases hv
  ·cases hv
 ·cases hv
theorem SimW.setMap (h : SimW B M ρ σ s a w) {b g : Nat} {m : MK} {xs ys : List (List AV)} (hb : s.bx b = some [.mp m xs]) (hg : ρ b = some g) {ob : Obj} (hy : MapAt { w with heap := w.heap.setIfInBounds g ob } g m ys) : SimW B M ρ σ (s.ap (.box b (some [.mp m ys]))) a { w with heap := w.heap.setIfInBounds g ob } := by
 obtain ⟨hma, hmap⟩ := h.mapAt hb hg
 obtain ⟨es, clock, rows, g1, -⟩ := hma
 have old : ∀ k, k ≠ g -> (w.heap.setIfInBounds g ob)[k]? = w.heap[k]? := λ k hk => (MapKept.heap_set (o' := ob) g1).2 k hk
 obtain ⟨hnone, hbase⟩ : (∀ o, M g o = none) /\ (B.w0.heap.size <= g \/ some g ∈ B.opn) := by
  rcases h.box b _ hb with ⟨e, -⟩ | ⟨g', q1, -, q3, q4⟩
  ·cases e
  ·rw [hg] at q1; cases q1; exact ⟨q3, q4⟩
 have norow : ∀ n, ¬ Row w g n := λ n ⟨ccs, t, ⟨z, r1, _⟩, _⟩ => by rw [g1] at r1; cases r1
 have nrow : ∀ g' n, Row w g' n -> Row { w with heap := w.heap.setIfInBounds g ob } g' n := λ g' n hr => by
  by_cases e : g' = g
  ·subst e; exact absurd hr (norow n)
  ·exact hr.of_heap (old g' e)
 have hbn := j9 hb
 have hne' : ∀ b', (s.ap (.box b (some [.mp m ys]))).bx b' ≠ none -> s.bx b' ≠ none := λ b' hb' => by
  rw [AS.bx_set] at hb'
  split at hb'
  ·rename_i e; rw [e]; exact hbn
  ·exact hb'
 have hsz : B.w0.heap.size <= (w.heap.setIfInBounds g ob).size := by simp; exact h.size
 refine { h with defers := h.defers.keep λ D _ hd => (old D (λ e => by rw [e, g1] at hd; cases hd)).trans hd, own := λ k hk hbk => h.own k hk (hne' k hbk), mem := λ g' o c hm => ?_, os := h.os, tape := h.tape, output := h.output, size := hsz, block := λ k h1 h2 h3 => ?_, box := λ b' cs' hb' => ?_, rws := λ g' n hr => nrow g' n (h.rws g' n hr), rlt := λ b' g' hr => by simpa using h.rlt b' g' hr, rho := λ b' g' hr => ?_, inj := λ b1 b2 g' q1 q2 q3 q4 => h.inj b1 b2 g' (hne' _ q1) (hne' _ q2) q3 q4, tok := λ t sp h1 h2 => ?_, cap := λ t sp hs => nrow _ _ (h.cap t sp hs) }
 ·have hgg : g' ≠ g := λ e => by subst e; rw [hnone] at hm; cases hm
  rw [zR (w := w) (old g' hgg)]
  exact h.mem g' o c hm
 ·have hkg : k ≠ g := λ e => by
   subst e
   rcases hbase with q | q
   ·omega
   ·exact h2 q
  rw [old k hkg]
  exact h.block k h1 h2 h3
 ·rw [AS.bx_set] at hb'
  by_cases e : b' = b
  ·subst e
   rw [if_pos rfl] at hb'
   cases hb'
   exact .inr ⟨g, hg, .inr ⟨hmap, m, ys, rfl, hy⟩, hnone, hbase⟩
  ·rw [if_neg e] at hb'
   rcases h.box b' cs' hb' with q | ⟨g', q1, q2, q3, q4⟩
   ·exact .inl q
   ·have hgg : g' ≠ g := λ e2 => by
     subst e2
     exact e (h.inj b' b g' (j9 hb') hbn q1 hg)
    exact .inr ⟨g', q1, q2.of_heap (old g' hgg) λ _ _ h => h, q3, q4⟩
 ·rw [AS.bx_set]
  split
  ·exact .inl (by simp)
  ·exact h.rho b' g' hr
 ·obtain ⟨q1, q2, q3, q4⟩ := h.tok t sp h1 h2
  exact ⟨q1, q2, q3, λ b' hb' => q4 b' (hne' b' hb')⟩
theorem zzQ (hT : TabOk P T) (h : SimW B M ρ σ s a w) {o : Oper} {t : TypeId} {x ix y : Operand} (ho : o.op = .mapUpdate t x ix y) (hd : o.dst = none) {W : List Wr} (hs : zqb T s t x ix y = some W) (K : Act -> World -> Prop) (Q : Exit -> Act -> World -> Prop) (hK : ∀ a' w', Sim B (s.aps W) a' w' -> K a' w') : o.wp P a w K Q := by
 unfold zqb at hs
 have hx := h.ev x
 have hi := h.ev ix
 have hy := h.ev y
 split at hs
 ·rename_i b k e hxe hu
  rw [hxe] at hx
  split at hs
  ·rename_i m xs m' hb hm
   split at hs
   ·rename_i hmm
    subst hmm
    split at hs
    ·rename_i key val hkey hval
     split at hs
     ·rename_i hkd hvd
      cases hs
      obtain ⟨dk, de, e1, e2, e3, e4, e5, e6, e7, e8⟩ := zi5 hT hm
      generalize hq : a.eval x = xv at hx
      cases hx with
      | @mref _ _ _ g hg =>
      obtain ⟨⟨es, clock, rows, g1, g2, g3⟩, -⟩ := h.mapAt hb hg
      subst g2
      obtain ⟨ck, rfl, c1, c2⟩ := zhl hi hkey hkd
      obtain ⟨cv, rfl, v1, v2⟩ := zhl hy hval hvd
      obtain ⟨res, f1, f2⟩ := zns (w := w) hT e1 e3 c1 (d := m) rfl e5 g3
      have chk : ∀ em, (Instr.checkKey em 10000 k (jU (zw dk) ck)).run P w = .ok () w := λ em => by
       obtain ⟨d0, u1, u2, u3, u4⟩ := ziD (M := M) (ρ := ρ) (σ := σ) (w := w) hT em 20 k m.ks e3
       rw [e1] at u2; cases u2
       exact u4 10000 (by omega) _ _ hkd (ziP u3 c1)
      have fin : ∀ (es' : Array MapEntry) (clock' : Nat) (rows' : List (List Value)), zbt (ck.map .v) (ck.map .v ++ cv.map .v) (rows.map (·.map .v)) = rows'.map (·.map .v) -> Rows m rows' es'.toList ->
        (execOp a.eval o).run P w = .ok .skip { w with heap := w.heap.setIfInBounds g (.map es' clock') } -> o.wp P a w K Q := λ es' clock' rows' h1 h2 h3 => by
       refine zjm h3 (hK _ _ ?_)
       rw [hd]
       refine ⟨M, ρ, σ, ?_⟩
       have hma : MapAt { w with heap := w.heap.setIfInBounds g (.map es' clock') } g m (zbt (ck.map .v) (ck.map .v ++ cv.map .v) (rows.map (·.map .v))) := ⟨es', clock', rows', (MapKept.heap_set g1).1, h1, h2⟩
       exact h.setMap hb hg hma
      have rowOk : ∀ en : MapEntry, en.key = jU m.aK ck -> en.val = jU m.aV cv -> zmZ m (ck ++ cv) en := λ en q1 q2 => ⟨ck, cv, rfl, c1, v1, q1, q2⟩
      have catm : ck.map AV.v ++ cv.map AV.v = (ck ++ cv).map AV.v := by simp
      rcases f2 with ⟨r1, r2, r3⟩ | ⟨j, e', r, r1, r2, r3, r4, r5, r6⟩
      ·subst r1
       refine fin (es.push { key := jU m.aK ck, val := jU m.aV cv, born := clock }) (clock + 1) (rows ++ [ck ++ cv]) (by rw [r3]; simp) (by rw [Array.toList_push]; exact g3.push _ _ (rowOk _ rfl rfl)) ?_
       unfold execOp
       simp only [ho, hq, c2, v2, e5, Instr.mapUpdate, Sem.run_bind, run_underlying (hT.u _ _ hu), MapKept.run_getObj_map g1, Result.andThen_ok, Sem.run_pure, chk, f1, MapKept.run_setObj_map _ g1]
      ·subst r3
       obtain ⟨ck', cv', p1, p2, p3, p4, p5⟩ := g3.at j r e' r2 r1
       have hlen : (ck.map AV.v).length = (ck'.map AV.v).length := by rw [ZI (Z9 c1), ZI (Z9 p2)]
       have heq : ck = ck' := by
        refine zf9 c1 p2 ?_
        rw [p1, List.map_append, zeZ _ _ _ hlen] at r4
        exact r4
       have hj := (List.getElem?_eq_some_iff.1 r1).1
       refine fin (es.modify (0 + j) λ en => { en with key := jU m.aK ck, val := jU m.aV cv }) clock (rows.set j (ck ++ cv)) (by rw [r6, catm]; simp) ?_ ?_
       ·have e0 : (es.modify (0 + j) λ en => { en with key := jU m.aK ck, val := jU m.aV cv }).toList = es.toList.set j { e' with key := jU m.aK ck, val := jU m.aV cv } := by
         rw [Nat.zero_add]
         refine List.ext_getElem (by simp) λ i h1 h2 => ?_
         simp only [Array.getElem_toList, List.getElem_set]
         rw [Array.getElem_modify]
         by_cases ei : j = i
         ·subst ei
          rw [if_pos rfl, if_pos rfl]
          have : es[j]'(by simpa using hj) = e' := by
           have := List.getElem?_eq_some_iff.1 r1
           obtain ⟨_, q⟩ := this
           simpa using q
          rw [this]
         ·rw [if_neg ei, if_neg ei]
        rw [e0]
        exact g3.set _ _ _ (rowOk _ rfl rfl)
       ·have hkey' : ((es[0 + j]?).map (·.key)).getD (jU (zw dk) ck) = jU (zw dk) ck := by
         have : es[0 + j]? = some e' := by
          rw [Nat.zero_add, <- Array.getElem?_toList]; exact r1
         rw [this]
         show e'.key = _
         rw [p4, e5, heq]
        have st := zqu (P := P) (w := w) (ag := zw dk) (by rw [<- e5]; exact e7) c1
        unfold execOp
        simp only [ho, hq, c2, v2, e5, Instr.mapUpdate, Sem.run_bind, run_underlying (hT.u _ _ hu), MapKept.run_getObj_map g1, Result.andThen_ok, Sem.run_pure, chk, f1, hkey', st, MapKept.run_setObj_map _ g1]
     ·cases hs
    ·cases hs
   ·cases hs
  ·cases hs
 ·cases hs
end
end
section
open Go.RowKit
def fzs {α : Type} : List Nat -> AS -> (AS -> Option α) -> Option α
 | [], s, k => k s
 | t :: r, s, k =>
  match s.at t with
  | .vs b off L n =>
   (match s.bx b, s.tk (tD b 0), s.tk (vk b) with
   | some cs, none, some _ =>
    if s.nin <= b /\ 0 < n then
     if L * n <= (ZF off n cs).length then fzs r (((s.ap (.box b none)).ap (.tok (tD b 0) true)).ap (.env t (.list n (zp ((ZF off n cs).take (L * n)) n L) (some (tD b 0))))) k else none
    else none
   | _, _, _ => none)
  | _ => none
def fzc {α : Type} : List (Nat × Nat) -> AS -> (AS -> Option α) -> Option α
 | [], s, k => k s
 | p :: r, s, k =>
  match s.bx p.1 with
  | some ccs =>
   (match ccs[p.2]? with
   | some (.vs b off L n) =>
    (match s.bx b, s.tk (tD b 0), s.tk (vk b) with
    | some cs, none, some _ =>
     if s.nin <= b /\ 0 < n /\ p.1 ≠ b then
      if L * n <= (ZF off n cs).length then fzc r (((s.ap (.box b none)).ap (.tok (tD b 0) true)).ap (.box p.1 (some (ccs.set p.2 (.list n (zp ((ZF off n cs).take (L * n)) n L) (some (tD b 0))))))) k else none
     else none
    | _, _, _ => none)
   | _ => none)
  | none => none
theorem znA {α : Type} {B : Base} {a : Act} {w : World} {k : AS -> Option α} {x : α} : ∀ (ts : List Nat) (s : AS), fzs ts s k = some x -> Sim B s a w -> ∃ s', k s' = some x /\ Sim B s' a w
 | [], s, h, hS => ⟨s, h, hS⟩
 | t :: r, s, h, hS => by
  unfold fzs at h
  split at h
  ·rename_i b off L n hat
   split at h
   ·rename_i cs mk hb htk hvk
    split at h
    ·rename_i c1
     split at h
     ·rename_i c2
      obtain ⟨M, ρ, σ, hs⟩ := hS
      have hr := hs.env t
      rw [hat] at hr
      obtain ⟨M', σ', q1, q2, q3⟩ := hs.fz hb c1.1 htk (by rw [hvk]; simp) c1.2 c2 hr
      exact znA r _ h ⟨M', ρ, σ', q1.reread t _ q3⟩
     ·cases h
    ·cases h
   ·cases h
  ·cases h
theorem ziV {α : Type} {B : Base} {a : Act} {w : World} {k : AS -> Option α} {x : α} : ∀ (ts : List (Nat × Nat)) (s : AS), fzc ts s k = some x -> Sim B s a w -> ∃ s', k s' = some x /\ Sim B s' a w
 | [], s, h, hS => ⟨s, h, hS⟩
 | p :: r, s, h, hS => by
  unfold fzc at h
  split at h
  ·rename_i ccs hp
   split at h
   ·rename_i b off L n hat
    split at h
    ·rename_i cs mk hb htk hvk
     split at h
     ·rename_i c1
      split at h
      ·rename_i c2
       obtain ⟨M, ρ, σ, hs⟩ := hS
       obtain ⟨hlt, hat'⟩ := List.getElem?_eq_some_iff.1 hat
       rcases hs.box p.1 ccs hp with ⟨e1, -⟩ | ⟨g, q1, ⟨vs, ty, r1, r2, r3, r4⟩ | ⟨-, d0, xs0, e0, -⟩, r5, r6⟩
       rotate_left 2
       ·subst e0
        have h0 : p.2 = 0 := by simpa using hlt
        rw [h0] at hat
        cases hat
       ·subst e1; cases hlt
       have hr := r4 p.2 (by omega) hlt
       rw [hat'] at hr
       obtain ⟨M', σ', p1, p2, p3⟩ := hs.fz hb c1.1 htk (by rw [hvk]; simp) c1.2.1 c2 hr
       have hbx : ((s.ap (.box b none)).ap (.tok (tD b 0) true)).bx p.1 = some ccs := by
        show (s.ap (.box b none)).bx p.1 = some ccs
        rw [AS.bx_set, if_neg c1.2.2]; exact hp
       refine ziV r _ h ⟨M', ρ, σ', p1.rebox hbx _ (.inr ⟨g, q1, .inl ⟨vs, ty, r1, by simpa using r2, λ i hi hi' => r3 i hi (by simpa using hi'), λ i hi hi' => ?_⟩⟩)⟩
       rw [List.getElem_set]
       split
       ·rename_i e; subst e; exact p3
       ·exact p2 _ _ (r4 _ _ _)
      ·cases h
     ·cases h
    ·cases h
   ·cases h
  ·cases h
end
section
open Go.RowKit
structure Ret where
 val : AV
 outs : List (List AV)
 new : Option (List AV)
 use : List Nat
 toks : List Nat
 sl : List Nat
 fm : Option (Nat × Nat) := none
def Ret.lv (r : Ret) (t : Nat) : Prop := t ∈ r.toks \/ ∃ j N, r.fm = some (j, N) /\ TOB + j <= t /\ t < TOB + N
abbrev Gam := FuncId -> Bool -> List AV -> List (List AV) -> Option Ret
def jR (M : Mem) (ρ : Rho) (σ : Sig) (w : World) (go : Option Nat) (cs : List AV) : Prop := (cs = [] /\ go = none) \/ ∃ g, go = some g /\ Hold0 M ρ σ w g cs /\ ∀ o, M g o = none
structure Frm (w w' : World) (opn : List (Option Nat)) (T : Nat -> Prop) : Prop where
 os : w'.os = w.os
 tape : w'.tape = w.tape
 output : w'.output = w.output
 size : w.heap.size <= w'.heap.size
 block : ∀ k, k < w.heap.size -> some k ∉ opn -> ¬ T k -> w'.heap[k]? = w.heap[k]?
def gsR (gs : List (Option Nat)) : Rho := λ k => (gs[k]?).getD none
def InT (σ : Sig) (live : List Nat) (g : Nat) : Prop := ∃ t ∈ live, ∃ sp, σ t = some sp /\ sp.g = g
def Inj (gs : List (Option Nat)) : Prop := ∀ (i j g : Nat), gs[i]? = some (some g) -> gs[j]? = some (some g) -> i = j
structure Toks (M : Mem) (w : World) (σ : Sig) (live : List Nat) (gs : List (Option Nat)) : Prop where
 tok : ∀ t ∈ live, ∀ sp, σ t = some sp -> sp.lo <= sp.hi /\ (∀ o, sp.lo <= o -> o < sp.hi -> M sp.g o = none) /\ some sp.g ∉ gs
 cap : ∀ t sp, σ t = some sp -> Row w sp.g sp.hi
 inj : ∀ t ∈ live, ∀ t' ∈ live, ∀ sp sp', σ t = some sp -> σ t' = some sp' -> sp.g = sp'.g -> t = t'
def tk0 : AV -> List Nat
 | .list _ _ (some t) => [t]
 | _ => []
def tk1 : AV -> List Nat
 | .agg cs => cs.flatMap tk0
 | x => tk0 x
def tk2 : AV -> List Nat
 | .tup cs => cs.flatMap tk1
 | x => tk1 x
structure Left (M : Mem) (w : World) (gs : List (Option Nat)) (σ : Sig) (r : Ret) (c : Value) (M' : Mem) (w' : World) (σ' : Sig) (gn : List (Option Nat)) : Prop where
 sub : ∀ g o v, M g o = some v -> M' g o = some v
 mem : ∀ g o v, M' g o = some v -> w'.cell? ⟨g, o, none⟩ = some v
 same : ∀ g o, g < w.heap.size -> ¬ InT σ r.use g -> M' g o = M g o
 frm : Frm w w' gs (InT σ r.use)
 olen : r.outs.length = gs.length
 outs : ∀ k (h : k < gs.length) (h' : k < r.outs.length), jR M' (gsR (gs ++ gn)) σ' w' gs[k] r.outs[k]
 data : ∀ k ∈ r.sl, ∀ (h : k < gs.length) (h' : k < r.outs.length), jR M' JD jE w' gs[k] r.outs[k]
 newn : r.new = none -> gn = []
 new : ∀ cs, r.new = some cs -> ∃ go, gn = [go] /\ jR M' (gsR (gs ++ gn)) σ' w' go cs /\ ∀ g, go = some g -> w.heap.size <= g
 val : Rd M' (gsR (gs ++ gn)) σ' c r.val
 tok : ∀ t, r.lv t -> ∀ sp, σ' t = some sp -> (w.heap.size <= sp.g \/ InT σ r.use sp.g) /\ sp.lo <= sp.hi /\ (∀ o, sp.lo <= o -> o < sp.hi -> M' sp.g o = none) /\ some sp.g ∉ gs ++ gn
 cap : ∀ t sp, σ' t = some sp -> Row w' sp.g sp.hi
 inj : ∀ t, r.lv t -> ∀ t', r.lv t' -> ∀ sp sp', σ' t = some sp -> σ' t' = some sp' -> sp.g = sp'.g -> t = t'
 rows : ∀ g n, Row w g n -> Row w' g n
 capin : ∀ k, k < gs.length -> ∀ sp, σ' (vk k) = some sp -> σ (vk k) = some sp
def CallOk (P : Program) (f : FuncId) (args : List AV) (bs : List (List AV)) (r : Ret) : Prop :=
 (∃ fn, P.funcs[f]? = some fn /\ (fn.name == "runtime.NumGoroutine") = false /\ fn.body.isNone = false) /\
 ∀ (M : Mem) (w : World) (cargs : Array Value) (gs : List (Option Nat)) (σ : Sig), zpd M w gs (InT σ r.use) -> (∀ g o v, M g o = some v -> w.cell? ⟨g, o, none⟩ = some v) -> (∀ (k g : Nat), gs[k]? = some (some g) -> g < w.heap.size) -> Inj gs -> gs.length = bs.length -> cargs.size = args.length ->
  (∀ i (h : i < cargs.size) (h' : i < args.length), Rd M (gsR gs) σ cargs[i] args[i]) -> (∀ k (h : k < gs.length) (h' : k < bs.length), jR M (gsR gs) σ w gs[k] bs[k]) -> (∀ k ∈ r.sl, ∀ (h : k < gs.length) (h' : k < bs.length), jR M JD jE w gs[k] bs[k]) -> Toks M w σ r.use gs -> Calls P f cargs w λ e w' => ∃ c M' σ' gn, e = .returned c /\ Left M w gs σ r c M' w' σ' gn
def Ret.nofm (r : Ret) : Ret := { r with fm := none }
theorem Left.nofm {M : Mem} {w : World} {gs : List (Option Nat)} {σ : Sig} {r : Ret} {c : Value} {M' : Mem} {w' : World} {σ' : Sig} {gn : List (Option Nat)} (h : Left M w gs σ r c M' w' σ' gn) : Left M w gs σ r.nofm c M' w' σ' gn :=
 have k : ∀ t, r.nofm.lv t -> r.lv t := λ t q => q.elim .inl λ ⟨_, _, e, _⟩ => by cases e
 { sub := h.sub, mem := h.mem, same := h.same, frm := h.frm, olen := h.olen, outs := h.outs, data := h.data, newn := h.newn, new := h.new, val := h.val, tok := λ t q => h.tok t (k t q), cap := h.cap, inj := λ t q t' q' => h.inj t (k t q) t' (k t' q'), rows := h.rows, capin := h.capin }
def GOk (P : Program) (Γ : Gam) : Prop := ∀ f m args bs r, Γ f m args bs = some r -> CallOk P f args bs r
def idx : List Nat -> Nat -> Option Nat
 | [], _ => none
 | x :: l, b => if x = b then some 0 else (idx l b).map (· + 1)
def zvg : AV -> List Nat
 | .ptr b _ => [b]
 | .vs b _ _ _ => [b]
 | _ => []
def vsR0 : AV -> List Nat
 | .vs b _ _ _ => [b]
 | _ => []
def ptrR : AV -> List Nat
 | .agg cs => cs.flatMap vsR0
 | .fn _ as1 bs => as1.flatMap zvg ++ bs.flatMap zvg
 | v => zvg v
def ptr1 : AV -> List Nat
 | .fn _ as1 bs => as1.flatMap zvg ++ bs.flatMap zvg
 | x => zvg x
def zrP (l : List Nat) (b : Nat) : List Nat := if l.contains b then l else l ++ [b]
def zCY (vs : List AV) : List Nat := (vs.flatMap ptr1).foldl zrP []
def zkc (s : AS) : List Nat -> List Nat
 | [] => []
 | b :: l => (match s.tk (vm b) with | some _ => [] | none => (match s.bx b with | some cs => cs.flatMap zvg | none => [])) ++ zkc s l
def JA (s : AS) (vs : List AV) : List Nat := (zkc s (zCY vs)).foldl zrP (zCY vs)
def tkV (s : AS) (t' : Nat) (f : Nat -> Option Nat) : AV -> AV
 | .list n xs (some t) => (match s.tk t with | some true => .list n xs (some t') | _ => .list n xs none)
 | v => mp2 f no1 v
def jV (s : AS) (f : Nat -> Option Nat) : Nat -> List AV -> List AV
 | _, [] => []
 | i, v :: r => tkV s (tI i) f v :: jV s f (i + 1) r
def jS (s : AS) (f : Nat -> Option Nat) (k : Nat) : Nat -> List AV -> List AV
 | _, [] => []
 | j, v :: r => tkV s (tC k j 0) f v :: jS s f k (j + 1) r
def jl (s : AS) (f : Nat -> Option Nat) : Nat -> List Nat -> Option (List (List AV))
 | _, [] => some []
 | k, b :: l => match s.cx b, jl s f (k + 1) l with
  | some cs, some r => some ((match s.tk (vm b) with | some _ => cs.map dat0 | none => jS s f k 0 cs) :: r)
  | _, _ => none
def tkT (s : AS) (t' : Nat) : AV -> List (Nat × Nat)
 | .list _ _ (some t) => (match s.tk t with | some true => [(t', t)] | _ => [])
 | _ => []
def zaN (s : AS) : Nat -> List AV -> List (Nat × Nat)
 | _, [] => []
 | i, v :: r => tkT s (tI i) v ++ zaN s (i + 1) r
def zba (s : AS) (k : Nat) : Nat -> List AV -> List (Nat × Nat)
 | _, [] => []
 | j, v :: r => tkT s (tC k j 0) v ++ zba s k (j + 1) r
def jv (s : AS) : Nat -> List Nat -> List (Nat × Nat)
 | _, [] => []
 | k, b :: l => (match s.tk (vm b) with | some _ => [] | none => (match s.bx b with | some cs => zba s k 0 cs | none => [])) ++ jv s (k + 1) l
def zoC : Nat -> List Nat -> List (Nat × Nat)
 | _, [] => []
 | k, b :: l => (vk k, vk b) :: zoC (k + 1) l
def zbw (tab : List (Nat × Nat)) : List Nat -> List Nat
 | [] => []
 | t :: r => match tab.lookup t with
  | some x => x :: zbw tab r
  | none => zbw tab r
def zgg (s : AS) (b : Nat) : Nat -> Nat -> Nat
 | 0, m => m
 | f + 1, m => match s.tk (tC b 4095 m) with
  | none => m
  | some _ => zgg s b f (m + 1)
def zAd (d i : Nat) : Nat -> List Nat
 | 0 => []
 | n + 1 => tD d i :: zAd d (i + 1) n
def zAc (b m : Nat) : Nat -> List Nat
 | 0 => []
 | n + 1 => tC b 4095 m :: zAc b (m + 1) n
def zuR (s : AS) (l : List Nat) (dst : Option Nat) (n : Nat) : List Nat :=
 match dst, l with
 | some d, _ => zAd d 0 n
 | none, b :: _ => zAc b (zgg s b 30 0) n
 | none, [] => []
def zM : List Nat -> Bool
 | [] => true
 | x :: l => !l.contains x && zM l
def fB (l : List Nat) (dst : Option Nat) (r : Ret) (k : Nat) : Option Nat := match l[k]? with
 | some b => some b
 | none => (match r.new, dst with | some _, some d => if k = l.length then some d else none | _, _ => none)
def ZK (f : Nat -> List AV -> List AV) : List Nat -> List (List AV) -> List Wr
 | b :: l, cs :: os => .box b (some (f b cs)) :: ZK f l os
 | _, _ => []
def zbs (s : AS) (l sl : List Nat) (f g : Nat -> Option Nat) (b : Nat) (cs : List AV) : List AV :=
 match (match idx l b with | some k => sl.contains k | none => false) with
 | true => cs
 | false => (match s.tk (vm b) with
  | some _ => cs.map dat0
  | none => cs.map (mp0 f g))
def zzn : AV -> Bool
 | .vs .. => true
 | _ => false
def zzo : AV -> Bool
 | .agg cs => cs.any zzn
 | v => zzn v
def zgh : AV -> Bool
 | .tup cs => cs.any zzo
 | v => zzo v
def datJ (j N : Nat) : AV -> AV
 | .list n xs t => .list n xs (match t with | some k => bif Nat.ble (TOB + j) k && !(Nat.ble (TOB + N) k) then some k else none | none => none)
 | x => dat0 x
def zuQ (fm : Option (Nat × Nat)) (v : AV) (f g : Nat -> Option Nat) (cs : List AV) : List AV := match fm with
 | some (j, N) => cs.map (datJ j N)
 | none => bif zgh v then cs.map dat0 else cs.map (mp0 f g)
def loT (l : List Nat) : Bool := l.all λ t => !(Nat.ble TOB t)
def zvM (s : AS) (d : Nat) (ns ts : List Nat) : Option (Nat × Nat) -> Bool
 | none => true
 | some _ => (match s.fm with | none => true | some _ => false) && (JB s.tok && (loT ns && (loT ts && !(Nat.ble TOB (vk d)))))
theorem ziA {a b : Nat} (h : (!(Nat.ble a b)) = true) : b < a := by
 cases e : Nat.ble a b with
 | true => rw [e] at h; cases h
 | false =>
  by_cases q : a <= b
  ·rw [Nat.ble_eq_true_of_le q] at e; cases e
  ·omega
theorem zi3 {l : List Nat} (h : loT l = true) {t : Nat} (ht : t ∈ l) : t < TOB := ziA (List.all_eq_true.1 h t ht)
theorem znx {s : AS} {d : Nat} {ns ts : List Nat} {p : Nat × Nat} (h : zvM s d ns ts (some p) = true) : s.fm = none /\ JB s.tok = true /\ (∀ t ∈ ns, t < TOB) /\ (∀ t ∈ ts, t < TOB) /\ vk d < TOB := by
 simp only [zvM, Bool.and_eq_true] at h
 obtain ⟨h1, h2, h3, h4, h5⟩ := h
 refine ⟨?_, h2, λ t => zi3 h3, λ t => zi3 h4, ziA h5⟩
 split at h1
 ·assumption
 ·cases h1
theorem Rd.datJ {M : Mem} {ρ ρ' : Rho} {σ σ' : Sig} {j N : Nat} {c : Value} {a : AV} (h : Rd M ρ σ c a) (hs : ∀ t sp, TOB + j <= t -> t < TOB + N -> σ t = some sp -> σ' t = some sp) : Rd M ρ' σ' c (datJ j N a) := by
 have d := h.dat0.of0 (ρ' := ρ') (σ' := σ')
 cases h with
 | nil ha => exact .nil (ha.imp id λ e => by rw [e])
 | list cf h1 h2 h3 h4 h5 h6 h7 =>
  refine .list cf h1 h2 h3 h4 h5 h6 (λ k hk => ?_)
  split at hk
  ·rename_i q
   cases hb : (Nat.ble (TOB + j) q && !(Nat.ble (TOB + N) q)) with
   | false => rw [hb] at hk; cases hk
   | true =>
    rw [hb] at hk
    cases hk
    obtain ⟨b1, b2⟩ := Bool.and_eq_true_iff.1 hb
    exact (h7 k rfl).imp id λ ⟨sp, q1, q2⟩ => ⟨sp, hs k sp (Nat.le_of_ble_eq_true b1) (ziA b2) q1, q2⟩
  ·cases hk
 | _ => exact d
def zDr (d : Nat) : Option (Nat × Nat) -> List Wr
 | none => []
 | some (j, N) => [.fm (some (d, j, N))]
def zAH (s : AS) (l sl : List Nat) : Bool := sl.all λ k => match l[k]? with | some b => (s.tk (vm b)).isSome | none => false
def zoa (s : AS) (l : List Nat) (dst : Option Nat) (tab : List (Nat × Nat)) (r : Ret) (us ns : List Nat) : Option (List Wr) :=
 if (r.use.all (λ t => (tab.lookup t).isSome || ((zoC 0 l).lookup t).isNone) && (zAH s l r.sl && (zM ((tab ++ zoC 0 l).map (·.1)) && (zM us && (zM ns && (zM r.toks && (decide (ns.length <= 30) && (ns.all (λ t => (s.tk t).isNone) && (ns.length == r.toks.length && r.outs.length == l.length))))))))) = true then
  (match r.new, dst with
  | some cs, some d =>
   (match s.bx d, s.tk (vk d) with
   | none, none =>
    if s.nin <= d /\ ns.contains (vk d) = false /\ zvM s d ns r.toks r.fm = true then
     some (us.map (λ t => .tok t false) ++ ZK (λ _ _ => []) l r.outs ++ ns.map (λ t => .tok t true) ++ zDr d r.fm ++ [.box d (some []), .tok (vk d) false] ++ (bif zgh r.val then [.tok (vm d) false] else []) ++ ZK (zbs s l r.sl (fB l dst r) (λ t => (r.toks.zip ns).lookup t)) l r.outs ++ [.box d (some (zuQ r.fm r.val (fB l dst r) (λ t => (r.toks.zip ns).lookup t) cs)), .env d (mp2 (fB l dst r) (λ t => (r.toks.zip ns).lookup t) r.val)])
    else none
   | _, _ => none)
  | some _, none => none
  | none, _ => some (us.map (λ t => .tok t false) ++ ZK (λ _ _ => []) l r.outs ++ ns.map (λ t => .tok t true) ++ ZK (zbs s l r.sl (fB l dst r) (λ t => (r.toks.zip ns).lookup t)) l r.outs ++ (match dst with | some d => [.env d (mp2 (fB l dst r) (λ t => (r.toks.zip ns).lookup t) r.val)] | none => [])))
 else none
def zbu (s : AS) (l : List Nat) (dst : Option Nat) (tab : List (Nat × Nat)) (r : Ret) : Option (List Wr) :=
 zoa s l dst tab r (zbw tab r.use) (zuR s l dst r.toks.length)
def zd8 (Γ : Gam) (s : AS) (dst : Option Nat) (m : Bool) (fv : Operand) (args : List Operand) : Option (List Wr) :=
 match s.ev fv with
 | .fn (.func f) first captured =>
  (match jl s (idx (JA s (first ++ args.map s.ev ++ captured))) 0 (JA s (first ++ args.map s.ev ++ captured)) with
  | some bs =>
   (match Γ f m (jV s (idx (JA s (first ++ args.map s.ev ++ captured))) 0 (first ++ args.map s.ev ++ captured)) bs with
   | some r => zbu s (JA s (first ++ args.map s.ev ++ captured)) dst (zaN s 0 (first ++ args.map s.ev ++ captured) ++ jv s 0 (JA s (first ++ args.map s.ev ++ captured))) (bif zpI f then r else r.nofm)
   | none => none)
  | none => none)
 | _ => none
theorem zfa : ∀ (l : List Nat) (b k : Nat), idx l b = some k -> l[k]? = some b
 | [], b, k, h => by cases h
 | x :: l, b, k, h => by
  unfold idx at h
  split at h
  ·rename_i e; cases h; simp [e]
  ·obtain ⟨k', h1, h2⟩ := Option.map_eq_some_iff.1 h
   subst h2
   simpa using zfa l b k' h1
theorem zjX {l : List Nat} {b : Nat} (h : l.Nodup) : (zrP l b).Nodup := by
 unfold zrP
 split
 ·exact h
 ·rename_i hc
  rw [List.nodup_append]
  refine ⟨h, by simp, λ x hx y hy => ?_⟩
  simp at hy
  subst hy
  intro e
  subst e
  exact hc (by simpa using hx)
theorem ZV : ∀ (m l : List Nat), l.Nodup -> (m.foldl zrP l).Nodup
 | [], l, h => h
 | b :: m, l, h => ZV m _ (zjX h)
theorem zj5 (s : AS) (vs : List AV) : (JA s vs).Nodup := ZV _ _ (ZV _ _ List.nodup_nil)
theorem zF : ∀ (l : List Nat), zM l = true -> l.Nodup
 | [], _ => List.nodup_nil
 | x :: l, h => by
  simp only [zM, Bool.and_eq_true, Bool.not_eq_true'] at h
  refine List.nodup_cons.2 ⟨λ hm => ?_, zF l h.2⟩
  have := h.1
  rw [<- Bool.not_eq_true, List.contains_iff_mem] at this
  exact this hm
theorem JU (s : AS) (f : Nat -> Option Nat) : ∀ (l : List Nat) (k0 : Nat) (bs : List (List AV)), jl s f k0 l = some bs -> bs.length = l.length /\ ∀ k (h : k < l.length) (h' : k < bs.length), ∃ cs, s.bx l[k] = some cs /\ bs[k] = (match s.tk (vm l[k]) with | some _ => cs.map dat0 | none => jS s f (k0 + k) 0 cs)
 | [], k0, bs, h => by cases h; exact ⟨rfl, λ k h => by cases h⟩
 | b :: l, k0, bs, h => by
  unfold jl at h
  split at h
  ·rename_i cs r hb hr
   cases h
   obtain ⟨h1, h2⟩ := JU s f l (k0 + 1) r hr
   refine ⟨by simp [h1], λ k hk hk' => ?_⟩
   cases k with
   | zero => exact ⟨cs, by simpa using (AS.cx_some hb).1, rfl⟩
   | succ k =>
    obtain ⟨cs', q1, q2⟩ := h2 k (by simpa using hk) (by simpa using hk')
    exact ⟨cs', by simpa using q1, by simp only [List.getElem_cons_succ]; rw [q2, show k0 + 1 + k = k0 + (k + 1) by omega]⟩
  ·cases h
theorem zd7 (s : AS) (f : Nat -> Option Nat) : ∀ (l : List Nat) (k0 : Nat) (bs : List (List AV)), jl s f k0 l = some bs -> ∀ b ∈ l, Z8 b = false
 | [], k0, bs, h => λ b hb => by cases hb
 | b :: l, k0, bs, h => λ b' hb' => by
  unfold jl at h
  split at h
  ·rename_i cs r hb hr
   rcases List.mem_cons.1 hb' with e | e
   ·rw [e]; exact (AS.cx_some hb).2
   ·exact zd7 s f l (k0 + 1) r hr b' e
  ·cases h
theorem zd9 (s : AS) (f : Nat -> Option Nat) (k : Nat) : ∀ (cs : List AV) (j0 : Nat), (jS s f k j0 cs).length = cs.length /\ ∀ j (h : j < (jS s f k j0 cs).length) (h' : j < cs.length), (jS s f k j0 cs)[j] = tkV s (tC k (j0 + j) 0) f cs[j]
 | [], j0 => ⟨rfl, λ j h => by cases h⟩
 | v :: r, j0 => by
  obtain ⟨h1, h2⟩ := zd9 s f k r (j0 + 1)
  refine ⟨by simp [jS, h1], λ j h h' => ?_⟩
  cases j with
  | zero => rfl
  | succ j =>
   have := h2 j (by simpa [jS] using h) (by simpa using h')
   simp only [jS, List.getElem_cons_succ, this]
   congr 2; omega
theorem zcp (s : AS) (f : Nat -> Option Nat) : ∀ (vs : List AV) (i0 : Nat), (jV s f i0 vs).length = vs.length /\ ∀ i (h : i < (jV s f i0 vs).length) (h' : i < vs.length), (jV s f i0 vs)[i] = tkV s (tI (i0 + i)) f vs[i]
 | [], i0 => ⟨rfl, λ j h => by cases h⟩
 | v :: r, i0 => by
  obtain ⟨h1, h2⟩ := zcp s f r (i0 + 1)
  refine ⟨by simp [jV, h1], λ j h h' => ?_⟩
  cases j with
  | zero => rfl
  | succ j =>
   have := h2 j (by simpa [jV] using h) (by simpa using h')
   simp only [jV, List.getElem_cons_succ, this]
   congr 2; omega
theorem jI (f : Nat -> List AV -> List AV) : ∀ (l : List Nat) (os : List (List AV)) (s : AS), l.Nodup -> l.length = os.length -> (s.aps (ZK f l os)).nin = s.nin /\ (s.aps (ZK f l os)).env = s.env /\ (s.aps (ZK f l os)).tok = s.tok /\
  (∀ b, b ∉ l -> (s.aps (ZK f l os)).bx b = s.bx b) /\ ∀ k (h : k < l.length) (h' : k < os.length), (s.aps (ZK f l os)).bx l[k] = some (f l[k] os[k])
 | [], os, s, _, _ => ⟨rfl, rfl, rfl, λ _ _ => rfl, λ k h => by cases h⟩
 | b :: l, [], s, _, hl => by simp at hl
 | b :: l, cs :: os, s, hn, hl => by
  obtain ⟨n1, n2⟩ := List.nodup_cons.1 hn
  obtain ⟨h0, h1, h2, h4, h5⟩ := jI f l os (s.ap (.box b (some (f b cs)))) n2 (by simpa using hl)
  have e : s.aps (ZK f (b :: l) (cs :: os)) = (s.ap (.box b (some (f b cs)))).aps (ZK f l os) := rfl
  rw [e]
  refine ⟨h0, h1, h2, λ x hx => ?_, λ k hk hk' => ?_⟩
  ·rw [h4 x (λ h => hx (List.mem_cons_of_mem _ h)), AS.bx_set, if_neg (λ e => hx (by rw [e]; exact List.mem_cons_self))]
  ·cases k with
   | zero => rw [List.getElem_cons_zero, List.getElem_cons_zero, h4 b n1, AS.bx_set, if_pos rfl]
   | succ k => simpa using h5 k (by simpa using hk) (by simpa using hk')
theorem zbB (f : Nat -> List AV -> List AV) : ∀ (l : List Nat) (os : List (List AV)) (s : AS), (s.aps (ZK f l os)).fm = s.fm
 | [], _, _ => rfl
 | _ :: _, [], _ => rfl
 | b :: l, cs :: os, s => zbB f l os (s.ap (.box b (some (f b cs))))
theorem zd2 (s : AS) (W W' : List Wr) : s.aps (W ++ W') = (s.aps W).aps W' := by simp [AS.aps, List.foldl_append]
section
variable {P : Program} {B : Base} {M : Mem} {ρ ρ' : Rho} {σ σ' : Sig} {s : AS} {a : Act} {w : World}
theorem Rd.tkV {f : Nat -> Option Nat} {t' : Nat} (R : Ren f no1 ρ σ ρ' σ') {c : Value} {v : AV} (h : Rd M ρ σ c v) (ht : ∀ n xs t sp, v = .list n xs (some t) -> s.tk t = some true -> σ t = some sp -> σ' t' = some sp) : Rd M ρ' σ' c (tkV s t' f v) := by
 unfold Go.Proofs.YthdgnfcbehcplaaGreatDoor.tkV
 split
 ·rename_i n xs t
  split
  ·rename_i hk
   cases h with
   | nil ha => exact .nil (.inl (ha.resolve_right (by simp)))
   | list cf h1 h2 h3 h4 h5 h6 h7 =>
    refine .list cf h1 h2 h3 h4 h5 h6 (λ k e => ?_)
    cases e
    exact (h7 t rfl).imp id λ ⟨sp, q1, q2⟩ => ⟨sp, ht _ _ _ _ rfl hk q1, q2⟩
  ·have := h.mp0 (f := no1) (g := no1) (Ren.no ρ σ ρ' σ')
   exact this
 ·exact h.mp2 R
theorem SimW.deads : ∀ (us : List Nat) (s : AS), SimW B M ρ σ s a w -> SimW B M ρ σ (s.aps (us.map λ t => .tok t false)) a w
 | [], s, h => h
 | t :: us, s, h => SimW.deads us _ (h.tokdead t)
theorem ziK : ∀ (us : List Nat) (s : AS) (t : Nat), (s.aps (us.map λ t => Wr.tok t false)).tk t = if t ∈ us then some false else s.tk t
 | [], s, t => by simp [AS.aps]
 | u :: us, s, t => by
  have e : s.aps ((u :: us).map λ t => Wr.tok t false) = (s.ap (.tok u false)).aps (us.map λ t => Wr.tok t false) := rfl
  rw [e, ziK us, AS.tk_set]
  by_cases h1 : t ∈ us
  ·simp [h1]
  ·by_cases h2 : t = u <;> simp [h1, h2]
theorem zhT (x : Bool) : ∀ (us : List Nat) (s : AS) (t : Nat), (s.aps (us.map λ t => Wr.tok t x)).tk t = if t ∈ us then some x else s.tk t
 | [], s, t => by simp [AS.aps]
 | u :: us, s, t => by
  have e : s.aps ((u :: us).map λ t => Wr.tok t x) = (s.ap (.tok u x)).aps (us.map λ t => Wr.tok t x) := rfl
  rw [e, zhT x us, AS.tk_set]
  by_cases h1 : t ∈ us
  ·simp [h1]
  ·by_cases h2 : t = u <;> simp [h1, h2]
theorem zal (x : Bool) : ∀ (us : List Nat) (s : AS), (s.aps (us.map λ t => Wr.tok t x)).nin = s.nin /\ (s.aps (us.map λ t => Wr.tok t x)).env = s.env /\ (s.aps (us.map λ t => Wr.tok t x)).box = s.box
 | [], s => ⟨rfl, rfl, rfl⟩
 | u :: us, s => zal x us (s.ap (.tok u x))
theorem SimW.after (h : SimW B M ρ σ s a w) {M' : Mem} {w' : World} {l : List Nat} {T : Nat -> Prop} (hl : ∀ b ∈ l, s.bx b ≠ none)
  (sub : ∀ g o v, M g o = some v -> M' g o = some v) (mem : ∀ g o v, M' g o = some v -> w'.cell? ⟨g, o, none⟩ = some v) (same : ∀ g o, g < w.heap.size -> ¬ T g -> M' g o = M g o) (frm : Frm w w' (l.map ρ) T)
  (hT1 : ∀ g, T g -> g < w.heap.size /\ (B.w0.heap.size <= g \/ B.tgs g) /\ (∀ b, s.bx b ≠ none -> ρ b ≠ some g) /\ ∀ t sp, s.tk t = some true -> σ t = some sp -> sp.g ≠ g) (hTr : ∀ g, T g -> ∃ n, Row w g n) (hmp : ∀ b ∈ l, Z8 b = false) (rows : ∀ g n, Row w g n -> Row w' g n)
  (hb : ∀ b ∈ l, ∀ g, ρ b = some g -> (∃ (ccs : Array Value) (t : TypeId), At w' g ccs t)) (os : List (List AV)) (hol : l.length = os.length) (hnd : l.Nodup) : SimW B M' ρ σ (s.aps (ZK (λ _ _ => []) l os)) a w' := by
 obtain ⟨e0, e1, e2, e4, e5⟩ := jI (λ _ _ => []) l os s hnd hol
 have eat : ∀ t, (s.aps (ZK (λ _ _ => []) l os)).at t = s.at t := λ t => by unfold AS.at; rw [e1]
 have etk : ∀ t, (s.aps (ZK (λ _ _ => []) l os)).tk t = s.tk t := λ t => by unfold AS.tk; rw [e2, zbB]
 have up : ∀ c v, Rd M ρ σ c v -> Rd M' ρ σ c v := λ c v hr => hr.mono sub _ _ (λ _ _ h => h) (λ _ _ h => h)
 have hbx : ∀ b, b ∈ l -> (s.aps (ZK (λ _ _ => []) l os)).bx b = some [] := λ b hm => by
  obtain ⟨k, hk, rfl⟩ := List.getElem_of_mem hm
  exact e5 k hk (by omega)
 have hbn : ∀ b, (s.aps (ZK (λ _ _ => []) l os)).bx b ≠ none -> s.bx b ≠ none := λ b hq => by
  by_cases hm : b ∈ l
  ·exact hl b hm
  ·rw [e4 b hm] at hq; exact hq
 have hlt : ∀ b g, ρ b = some g -> g < w.heap.size := h.rlt
 have nin' : ∀ k b, s.bx b ≠ none -> ρ b = some k -> b ∉ l -> some k ∉ l.map ρ := λ k b hq hr hm hin => by
  obtain ⟨b', hb1, hb2⟩ := List.mem_map.1 hin
  exact hm (h.inj b b' k hq (hl b' hb1) hr hb2 ▸ hb1)
 refine { nin := by rw [e0]; exact h.nin, own := λ k hk hbk => h.own k (by rw [<- e0]; exact hk) (hbn k hbk), fresh := λ b g hn hr => h.fresh b g (by rw [<- e0]; exact hn) hr, len := by rw [e1]; exact h.len, env := λ t => by rw [eat]; exact up _ _ (h.env t), defers := h.defers.keep λ D _ hd => (frm.block D (Z0 hd) (λ hin => ?_) (λ ht => by obtain ⟨n, hr⟩ := hTr D ht; exact zgo hd hr rfl)).trans hd, mem := mem, memB := λ g o hg' h2 => ?_, memS := λ g o c hm => sub _ _ _ (h.memS g o c hm), gl := h.gl, os := frm.os.trans h.os, tape := frm.tape.trans h.tape, output := frm.output.trans h.output, size := Nat.le_trans h.size frm.size, block := λ k h1 h2 h3 => ?_, box := λ b cs hq => ?_, rws := λ g n hr => rows g n (h.rws g n hr), rlt := λ b g hr => Nat.lt_of_lt_of_le (h.rlt b g hr) frm.size, rho := λ b g hr => ?_, inj := λ b b' g h1 h2 h3 h4 => h.inj b b' g (hbn b h1) (hbn b' h2) h3 h4, tok := λ t sp ht hs => ?_, cap := λ t sp hs => rows _ _ (h.cap t sp hs), sig := λ t sp hs => by rw [etk]; exact h.sig t sp hs, capB := λ k hk => h.capB k (by rw [<- e0]; exact hk), nink := λ k hk => by rw [etk]; exact h.nink k (by rw [<- e0]; exact hk), tinj := λ t t' sp sp' h1 h2 => h.tinj t t' sp sp' (by rw [<- etk]; exact h1) (by rw [<- etk]; exact h2) }
 ·obtain ⟨b, hb1, hb2⟩ := List.mem_map.1 hin
  cases hq : s.bx b with
  | none => exact hl b hb1 hq
  | some cs =>
   rcases h.box b cs hq with ⟨-, e⟩ | ⟨g, q1, q2, -⟩
   ·rw [hb2] at e; cases e
   ·rw [hb2] at q1; cases q1
    obtain ⟨ccs, ty, r1, -⟩ := q2.cells (hmp b hb1)
    exact ja hd r1 rfl
 ·rw [same g o (Nat.lt_of_lt_of_le hg' h.size) (λ ht => by
   rcases (hT1 g ht).2.1 with q | q
   ·omega
   ·exact h2 q)]
  exact h.memB g o hg' h2
 ·rw [frm.block k (Nat.lt_of_lt_of_le h1 h.size) (λ hin => ?_) (λ ht => ?_)]
  ·exact h.block k h1 h2 h3
  ·obtain ⟨b, hb1, hb2⟩ := List.mem_map.1 hin
   cases hq : s.bx b with
   | none => exact hl b hb1 hq
   | some cs =>
    rcases h.box b cs hq with ⟨-, e⟩ | ⟨g, q1, -, -, q4⟩
    ·rw [hb2] at e; cases e
    ·rw [hb2] at q1; cases q1
     rcases q4 with q | q
     ·omega
     ·exact h2 q
  ·rcases (hT1 k ht).2.1 with q | q
   ·omega
   ·exact h3 q
 ·by_cases hm : b ∈ l
  ·rw [hbx b hm] at hq
   cases hq
   cases hr : ρ b with
   | none => exact .inl ⟨rfl, rfl⟩
   | some g =>
    cases hs : s.bx b with
    | none => exact absurd hs (hl b hm)
    | some cs0 =>
     rcases h.box b cs0 hs with ⟨-, e⟩ | ⟨g', q1, -, q3, q4⟩
     ·rw [hr] at e; cases e
     ·rw [hr] at q1; cases q1
      obtain ⟨ccs, t, r1⟩ := hb b hm g hr
      refine .inr ⟨g, rfl, .inl ⟨ccs, t, r1, Nat.zero_le _, (λ i _ h => by cases h), (λ i _ h => by cases h)⟩, λ o => ?_, q4⟩
      rw [same g o (hlt b g hr) (λ ht => (hT1 g ht).2.2.1 b (hl b hm) hr)]
      exact q3 o
  ·rw [e4 b hm] at hq
   rcases h.box b cs hq with e | ⟨g, q1, q2, q3, q4⟩
   ·exact .inl e
   ·have nt : ¬ T g := λ ht => (hT1 g ht).2.2.1 b (j9 hq) q1
    refine .inr ⟨g, q1, q2.of_heap (frm.block g q2.lt (nin' g b (j9 hq) q1 hm) nt) up, λ o => ?_, q4⟩
    rw [same g o q2.lt nt]; exact q3 o
 ·rcases h.rho b g hr with q | q
  ·refine .inl ?_
   by_cases hm : b ∈ l
   ·rw [hbx b hm]; simp
   ·rw [e4 b hm]; exact q
  ·exact .inr (by rw [etk]; exact q)
 ·rw [etk] at ht
  obtain ⟨q1, q2, q3, q4⟩ := h.tok t sp ht hs
  refine ⟨q1, q2, λ o x y => ?_, λ b hq => q4 b (hbn b hq)⟩
  rw [same _ o (h.cap t sp hs).lt (λ hT => (hT1 _ hT).2.2.2 t sp ht hs rfl)]
  exact q3 o x y
theorem SimW.owns : ∀ (ns : List Nat) (sos : List (Option Spare)) (s : AS) (σ : Sig), SimW B M ρ σ s a w -> ns.length = sos.length -> ns.Nodup -> (∀ t ∈ ns, s.tk t = none) ->
  (∀ sp, some sp ∈ sos -> (B.w0.heap.size <= sp.g \/ B.tgs sp.g) /\ sp.lo <= sp.hi /\ (∀ o, sp.lo <= o -> o < sp.hi -> M sp.g o = none) /\ (∀ b, s.bx b ≠ none -> ρ b ≠ some sp.g) /\ Row w sp.g sp.hi /\ ∀ t sp', s.tk t = some true -> σ t = some sp' -> sp'.g ≠ sp.g) ->
  (∀ (i j : Nat) (sp sp' : Spare), sos[i]? = some (some sp) -> sos[j]? = some (some sp') -> sp.g = sp'.g -> i = j) ->
  ∃ σ', SimW B M ρ σ' (s.aps (ns.map λ t => .tok t true)) a w /\ (∀ t sp, σ t = some sp -> σ' t = some sp) /\ (∀ i (h : i < ns.length) (h' : i < sos.length), σ' ns[i] = sos[i]) /\ ∀ t, t ∉ ns -> σ' t = σ t
 | [], sos, s, σ, h, _, _, _, _, _ => ⟨σ, h, λ _ _ h => h, λ i h => (by cases h), λ _ _ => rfl⟩
 | n :: ns, [], s, σ, h, hl, _, _, _, _ => by simp at hl
 | n :: ns, so :: sos, s, σ, h, hl, hnd, hfr, hso, hinj => by
  obtain ⟨n1, n2⟩ := List.nodup_cons.1 hnd
  have hn0 := hfr n List.mem_cons_self
  have h1 := h.ownTok n hn0 so (λ sp e => hso sp (by rw [e]; exact List.mem_cons_self))
  have hσ0 := h.snone hn0
  have hs' : ∀ t, (s.ap (.tok n true)).tk t = if t = n then some true else s.tk t := λ t => AS.tk_set s n t true
  obtain ⟨σ', q1, q2, q3, q4⟩ := SimW.owns ns sos _ _ h1 (by simpa using hl) n2 (λ t ht => by
   rw [hs', if_neg (λ e => n1 (by rw [<- e]; exact ht))]; exact hfr t (List.mem_cons_of_mem _ ht)) (λ sp hsp => by
   obtain ⟨p1, p2, p3, p4, p5, p6⟩ := hso sp (List.mem_cons_of_mem _ hsp)
   refine ⟨p1, p2, p3, p4, p5, λ t sp' ht hs hg => ?_⟩
   rw [hs'] at ht
   by_cases e : t = n
   ·rw [if_pos e] at hs
    obtain ⟨j, hj⟩ := List.getElem?_of_mem hsp
    have := hinj 0 (j + 1) sp' sp (by simp [hs]) (by simpa using hj) hg
    omega
   ·rw [if_neg e] at hs ht
    exact p6 t sp' ht hs hg) (λ i j sp sp' e1 e2 hg => by
   have := hinj (i + 1) (j + 1) sp sp' (by simpa using e1) (by simpa using e2) hg
   omega)
  refine ⟨σ', q1, λ t sp hs => q2 t sp ?_, λ i hi hi' => ?_, λ t ht => ?_⟩
  ·split
   ·rename_i e; subst e; rw [hσ0] at hs; cases hs
   ·exact hs
  ·cases i with
   | zero =>
    rw [List.getElem_cons_zero, List.getElem_cons_zero, q4 n n1]
    simp
   | succ i => simpa using q3 i (by simpa using hi) (by simpa using hi')
  ·rw [q4 t (λ e => ht (List.mem_cons_of_mem _ e))]
   rw [if_neg (λ e => ht (by rw [e]; exact List.mem_cons_self))]
theorem SimW.famIn {j N : Nat} (h : SimW B M ρ σ s a w) (d : Nat) (hf : s.fm = none) (hn : ∀ t, TOB <= t -> s.tk t = none)
  (hso : ∀ t sp, TOB + j <= t -> t < TOB + N -> σ' t = some sp -> (B.w0.heap.size <= sp.g \/ B.tgs sp.g) /\ sp.lo <= sp.hi /\ (∀ o, sp.lo <= o -> o < sp.hi -> M sp.g o = none) /\ (∀ b, s.bx b ≠ none -> ρ b ≠ some sp.g) /\ Row w sp.g sp.hi /\ ∀ t sp', s.tk t = some true -> σ t = some sp' -> sp'.g ≠ sp.g)
  (hinj : ∀ t t' sp sp', TOB + j <= t -> t < TOB + N -> TOB + j <= t' -> t' < TOB + N -> σ' t = some sp -> σ' t' = some sp' -> sp.g = sp'.g -> t = t') :
  ∃ σ1, SimW B M ρ σ1 (s.ap (.fm (some (d, j, N)))) a w /\ (∀ t sp, σ t = some sp -> σ1 t = some sp) /\ (∀ t, TOB + j <= t -> t < TOB + N -> σ1 t = σ' t) /\ ∀ t, ¬ (TOB + j <= t /\ t < TOB + N) -> σ1 t = σ t := by
 obtain ⟨fl, hfl⟩ : ∃ fl, (List.range (N - j)).map (λ i => TOB + j + i) = fl := ⟨_, rfl⟩
 have mem : ∀ t, t ∈ fl ↔ TOB + j <= t /\ t < TOB + N := λ t => by
  rw [<- hfl, List.mem_map]
  refine ⟨λ ⟨i, h1, h2⟩ => ?_, λ ⟨h1, h2⟩ => ⟨t - (TOB + j), ?_, by omega⟩⟩
  ·have := List.mem_range.1 h1; omega
  ·exact List.mem_range.2 (by omega)
 have hlen : fl.length = N - j := by rw [<- hfl]; simp
 have get : ∀ (i : Nat) (hi : i < fl.length), fl[i] = TOB + j + i := λ i hi => by subst hfl; simp
 obtain ⟨σ1, q1, q2, q3, q4⟩ := SimW.owns fl (fl.map σ') s σ h (by simp) (by
   rw [List.nodup_iff_pairwise_ne, List.pairwise_iff_getElem]
   intro i k hi hk hik
   rw [get i hi, get k hk]
   omega) (λ t ht => hn t (by have := (mem t).1 ht; omega)) (λ sp hsp => by
   obtain ⟨t, ht, e⟩ := List.mem_map.1 hsp
   exact hso t sp ((mem t).1 ht).1 ((mem t).1 ht).2 e) (λ i k sp sp' hi hk hg => by
   rw [List.getElem?_map] at hi hk
   obtain ⟨t, hi1, hi2⟩ := Option.map_eq_some_iff.1 hi
   obtain ⟨t', hk1, hk2⟩ := Option.map_eq_some_iff.1 hk
   obtain ⟨i1, i2⟩ := List.getElem?_eq_some_iff.1 hi1
   obtain ⟨j1, j2⟩ := List.getElem?_eq_some_iff.1 hk1
   have m1 := (mem t).1 (i2 ▸ List.getElem_mem _)
   have m2 := (mem t').1 (j2 ▸ List.getElem_mem _)
   have e := hinj t t' sp sp' m1.1 m1.2 m2.1 m2.2 hi2 hk2 hg
   rw [get] at i2 j2
   omega)
 have lk : ∀ t, TOB <= t -> s.tok.lookup t = none := λ t ht => by rw [<- AS.tk_nofm hf]; exact hn t ht
 obtain ⟨k1, k2, k3⟩ := zal true fl s
 have k4 := zhT true fl s
 have tkF : ∀ t, (s.ap (.fm (some (d, j, N)))).tk t = match s.tok.lookup t with | some x => some x | none => zfA (some (d, j, N)) t := λ t => rfl
 have lo : ∀ t, t < TOB -> (s.ap (.fm (some (d, j, N)))).tk t = s.tk t := λ t ht => by
  rw [tkF, AS.tk_nofm hf, jJ ht]
  cases s.tok.lookup t <;> rfl
 refine ⟨σ1, q1.tkweak ?_ (λ b => ?_) ?_ (λ t hl => ?_) (λ t hl => ?_), q2, λ t h1 h2 => ?_, λ t hnm => q4 t (λ hm => hnm ((mem t).1 hm))⟩
 ·rw [k2]; rfl
 ·show s.bx b = _
  unfold AS.bx; rw [k3]
 ·rw [k1]; rfl
 ·rw [k4]
  by_cases ht : TOB <= t
  ·rw [tkF, lk t ht] at hl
   obtain ⟨i, rfl⟩ : ∃ i, t = TOB + i := ⟨t - TOB, by omega⟩
   by_cases q : N <= i
   ·have := Jj (b := d) (j := j) q
    rw [show zfA (some (d, j, N)) (TOB + i) = none from this] at hl
    cases hl
   ·have := ZU (b := d) (j := j) (Nat.lt_of_not_le q)
    rw [show zfA (some (d, j, N)) (TOB + i) = _ from this] at hl
    have hj : j <= i := by
     by_cases hj : j <= i
     ·exact hj
     ·rw [decide_eq_false hj] at hl; cases hl
    rw [if_pos ((mem _).2 ⟨by omega, by omega⟩)]
  ·rw [if_neg (λ hm => ht (by have := (mem t).1 hm; omega))]
   rw [lo t (by omega)] at hl
   exact hl
 ·rw [k4] at hl
  by_cases ht : t ∈ fl
  ·obtain ⟨h1, h2⟩ := (mem t).1 ht
   obtain ⟨i, rfl⟩ : ∃ i, t = TOB + i := ⟨t - TOB, by omega⟩
   rw [tkF, lk _ (by omega)]
   rw [show zfA (some (d, j, N)) (TOB + i) = _ from ZU (b := d) (j := j) (by omega)]
   simp
  ·rw [if_neg ht] at hl
   have ht' : t < TOB := by
    by_cases q : TOB <= t
    ·exact absurd (hn t q) hl
    ·omega
   rw [lo t ht']
   exact hl
 ·obtain ⟨i, hi, e⟩ := List.getElem_of_mem ((mem t).2 ⟨h1, h2⟩)
  have := q3 i hi (by simpa using hi)
  rw [List.getElem_map, e] at this
  exact this
theorem SimW.reboxes (fV : Nat -> List AV -> List AV) : ∀ (l : List Nat) (os : List (List AV)) (s : AS), SimW B M ρ σ s a w -> l.Nodup -> (∀ k (h : k < l.length) (h' : k < os.length), ∃ cs0, s.bx l[k] = some cs0 /\ ((fV l[k] os[k] = [] /\ ρ l[k] = none) \/ ∃ g, ρ l[k] = some g /\ Hold0 M ρ σ w g (fV l[k] os[k]))) -> SimW B M ρ σ (s.aps (ZK fV l os)) a w
 | [], os, s, h, _, _ => h
 | b :: l, [], s, h, _, _ => h
 | b :: l, cs :: os, s, h, hn, hh => by
  obtain ⟨n1, n2⟩ := List.nodup_cons.1 hn
  obtain ⟨cs0, q1, q2⟩ := hh 0 (by simp) (by simp)
  refine SimW.reboxes fV l os _ (h.rebox q1 _ (q2.imp id λ ⟨g, a, b⟩ => ⟨g, a, .inl b⟩)) n2 (λ k hk hk' => ?_)
  obtain ⟨cs1, p1, p2⟩ := hh (k + 1) (by simpa using hk) (by simpa using hk')
  simp only [List.getElem_cons_succ] at p1 p2
  refine ⟨cs1, ?_, p2⟩
  have hm : l[k]'(by simpa using hk) ∈ l := List.getElem_mem _
  rw [AS.bx_set, if_neg (λ e => n1 (by rw [<- e]; exact hm))]
  exact p1
end
end
section
open Go.RowKit
def zJ : Op -> Bool
 | .move _ | .assign _ | .pick .. | .load .. | .nilCheck _ | .fieldAddr .. | .indexAddr .. | .field .. | .extract .. | .makeFunc .. | .slice .. | .index .. => true
 | .binOp .quo .. | .binOp .rem .. | .binOp .add .. | .binOp .shl .. | .binOp .shr .. => true
 | .call { callee := .builtin .len, .. } => true
 | _ => false
def zku (d : Option Nat) : Option AV -> Option (List Wr)
 | some v => some (AS.out d v)
 | none => none
def Zp (T : Tab) (Γ : Gam) (o : Oper) (s : AS) (c : Call) : Option (List Wr) :=
 match c.callee with
 | .value f => zd8 Γ s o.dst (match o.dst with | some d => T.bm d | none => false) f c.args.toList
 | .builtin .append =>
  (match c.args.toList, c.argTypes.toList, o.dst with
  | [x, y], [t, t'], some d => if t = t' then ZY T s d t x y else none
  | _, _, _ => none)
 | .builtin .copy =>
  (match c.args.toList, c.argTypes.toList with
  | [x, y], [t, t'] => if t = t' then zbg T s o.dst t x y else none
  | _, _ => none)
 | .builtin .clear =>
  (match c.args.toList, c.argTypes.toList, o.dst with
  | [x], [t], none => Jb T s t x
  | _, _, _ => none)
 | .builtin _ => zku o.dst ((zab o s).map nrm)
 | .invoke _ _ => none
def zbf (T : Tab) (s : AS) (d : Option Nat) (src dst : TypeId) (x : Operand) : Option (List Wr) :=
 match zku d (zn T s (.convert src dst x)) with
 | some W => some W
 | none => (match d with
  | some d => zcw T s d src dst x
  | none => none)
def Zd (T : Tab) (Γ : Gam) (o : Oper) (s : AS) : Option (List Wr) :=
 if zJ o.op then zku o.dst (zn T s o.op) else
 match o.op, o.dst with
 | .alloc t, some d => zeG T s d t
 | .box t x, some d => zpn s d x
 | .store t x y, none => zaX T s t x y
 | .build t parts, d => zku d (zeR T s t parts.toList)
 | .buildSlice t len parts, some d => jm T s d t len parts.toList
 | .call c, _ => Zp T Γ o s c
 | .makeSlice t l c, some d => zef T s d t l c
 | .makeMap t none, some d => zAw T s d t
 | .lookup t x ix ok, d => zku d (zi4 T s t x ix ok)
 | .mapUpdate t x ix y, none => zqb T s t x ix y
 | .binOp op t x y _, d => zku d (zoB T s o op t x y)
 | .unOp .., d => zku d ((zab o s).map nrm)
 | .convert src dst x, d => zbf T s d src dst x
 | _, _ => none
def zqA (T : Tab) (o : Oper) : Option (Nat × TypeId × Operand) := match o.op, o.dst with
 | .load t x, some d => (match T.bm d with | true => some (d, t, x) | false => none)
 | _, _ => none
def zbp (T : Tab) (s : AS) (d : Nat) (t : TypeId) (x : Operand) : Option (List Wr) :=
 match s.ev x, T.u t with
 | .ptr b off, some (.slice e) =>
  (match s.cx b, s.fm, T.i e, s.tk (tD d 0) with
  | some cs, some (b', j, N), some i, none =>
   bif Nat.beq b' b && JB s.tok then
    (match cs[off]? with
    | some c => (match c with
     | .list n xs (some k) => if n = i.1 /\ k = TOB + off /\ j <= off /\ off < N then some [.fm (some (b, off + 1, N)), .tok (tD d 0) true, .env d (.list i.1 xs (some (tD d 0)))] else none
     | _ => none)
    | none => none)
   else none
  | _, _, _, _ => none)
 | _, _ => none
def zhg (T : Tab) (s : AS) (o : Oper) : Option (Nat × TypeId × Operand × Operand) := match o.op, o.dst with
 | .call c, some d =>
  (match c.callee, c.args.toList, c.argTypes.toList with
  | .builtin .append, [x, y], [t, t'] => (match T.bm d with
   | true => (match s.ev y with | .vs .. => if t = t' then some (d, t, x, y) else none | _ => none)
   | false => none)
  | _, _, _ => none)
 | _, _ => none
def Jr (T : Tab) (Γ : Gam) (o : Oper) (s : AS) : Option (List Wr) := match zqA T o with
 | some p => zbp T s p.1 p.2.1 p.2.2
 | none => (match zhg T s o with
  | some p => j8 T s p.1 p.2.1 p.2.2.1 p.2.2.2
  | none => Zd T Γ o s)
section
variable {P : Program} {T : Tab} {B : Base} {M : Mem} {ρ : Rho} {σ : Sig} {s : AS} {a : Act} {w : World}
theorem zov {t' : Nat} {v : AV} {p : Nat × Nat} (h : p ∈ tkT s t' v) : p.1 = t' /\ s.tk p.2 = some true := by
 unfold tkT at h
 split at h
 ·rename_i n xs t
  split at h
  ·rename_i hk
   simp at h; subst h; exact ⟨rfl, hk⟩
  ·cases h
 ·cases h
theorem zsm {t' t n : Nat} {xs : List (List AV)} (hk : s.tk t = some true) : (t', t) ∈ tkT s t' (.list n xs (some t)) := by
 simp [tkT, hk]
theorem zd3 : ∀ (vs : List AV) (i : Nat) (p : Nat × Nat), p ∈ zaN s i vs -> s.tk p.2 = some true
 | [], i, p, h => by cases h
 | v :: r, i, p, h => by
  rcases List.mem_append.1 h with h | h
  ·exact (zov h).2
  ·exact zd3 r _ p h
theorem zcy (k : Nat) : ∀ (vs : List AV) (i : Nat) (p : Nat × Nat), p ∈ zba s k i vs -> s.tk p.2 = some true
 | [], i, p, h => by cases h
 | v :: r, i, p, h => by
  rcases List.mem_append.1 h with h | h
  ·exact (zov h).2
  ·exact zcy k r _ p h
theorem zcv : ∀ (l : List Nat) (k : Nat) (p : Nat × Nat), p ∈ jv s k l -> s.tk p.2 = some true
 | [], k, p, h => by cases h
 | b :: l, k, p, h => by
  rcases List.mem_append.1 h with h | h
  ·split at h
   ·cases h
   ·split at h
    ·exact zcy k _ _ p h
    ·cases h
  ·exact zcv l _ p h
theorem zix : ∀ (vs : List AV) (i0 i : Nat) (h : i < vs.length) (p : Nat × Nat), p ∈ tkT s (tI (i0 + i)) vs[i] -> p ∈ zaN s i0 vs
 | v :: r, i0, 0, h, p, hp => List.mem_append_left _ hp
 | v :: r, i0, i + 1, h, p, hp => by
  refine List.mem_append_right _ (zix r (i0 + 1) i (by simpa using h) p ?_)
  rw [show i0 + 1 + i = i0 + (i + 1) by omega]; exact hp
theorem zf4 (k : Nat) : ∀ (vs : List AV) (i0 i : Nat) (h : i < vs.length) (p : Nat × Nat), p ∈ tkT s (tC k (i0 + i) 0) vs[i] -> p ∈ zba s k i0 vs
 | v :: r, i0, 0, h, p, hp => List.mem_append_left _ hp
 | v :: r, i0, i + 1, h, p, hp => by
  refine List.mem_append_right _ (zf4 k r (i0 + 1) i (by simpa using h) p ?_)
  rw [show i0 + 1 + i = i0 + (i + 1) by omega]; exact hp
theorem zf2 : ∀ (l : List Nat) (k0 k : Nat) (h : k < l.length) (cs : List AV), s.tk (vm l[k]) = none -> s.bx l[k] = some cs -> ∀ p, p ∈ zba s (k0 + k) 0 cs -> p ∈ jv s k0 l
 | b :: l, k0, 0, h, cs, h1, h2, p, hp => by
  refine List.mem_append_left _ ?_
  simp only [List.getElem_cons_zero] at h1 h2
  simp only [h1, h2]
  exact hp
 | b :: l, k0, k + 1, h, cs, h1, h2, p, hp => by
  refine List.mem_append_right _ (zf2 l (k0 + 1) k (by simpa using h) cs (by simpa using h1) (by simpa using h2) p ?_)
  rw [show k0 + 1 + k = k0 + (k + 1) by omega]; exact hp
theorem zhi : ∀ (l : List Nat) (k0 k : Nat) (h : k < l.length), (vk (k0 + k), vk l[k]) ∈ zoC k0 l
 | b :: l, k0, 0, h => List.mem_cons_self
 | b :: l, k0, k + 1, h => by
  refine List.mem_cons_of_mem _ ?_
  have := zhi l (k0 + 1) k (by simpa using h)
  rw [show k0 + 1 + k = k0 + (k + 1) by omega] at this
  simpa using this
theorem Je {α : Type} : ∀ (l : List (Nat × α)), zM (l.map (·.1)) = true -> ∀ t x, (t, x) ∈ l -> l.lookup t = some x
 | [], _, t, x, h => by cases h
 | (t0, x0) :: r, hd, t, x, h => by
  rw [List.map_cons] at hd
  simp only [zM, Bool.and_eq_true, Bool.not_eq_true'] at hd
  rw [List.lookup_cons]
  rcases List.mem_cons.1 h with e | e
  ·cases e; simp
  ·have : t ≠ t0 := λ e2 => by
    subst e2
    have h1 := hd.1
    rw [<- Bool.not_eq_true, List.contains_iff_mem] at h1
    exact h1 (List.mem_map_of_mem (f := (·.1)) e)
   have e2 : (t == t0) = false := by simp [this]
   rw [e2]
   exact Je r hd.2 t x e
theorem zx {κ α : Type} [BEq κ] [LawfulBEq κ] : ∀ (l : List (κ × α)) (t : κ) (p : α), l.lookup t = some p -> (t, p) ∈ l
 | (t0, p0) :: r, t, p, h => by
  rw [List.lookup_cons] at h
  by_cases e : t = t0
  ·subst e; simp at h; subst h; exact List.mem_cons_self
  ·have e2 : (t == t0) = false := by simp [e]
   rw [e2] at h
   exact List.mem_cons_of_mem _ (zx r t p h)
theorem JF (tab : List (Nat × Nat)) : ∀ (use : List Nat), ∀ t ∈ use, ∀ t', tab.lookup t = some t' -> t' ∈ zbw tab use
 | [], t, ht => by cases ht
 | u :: use, t, ht => λ t' hl => by
  unfold zbw
  rcases List.mem_cons.1 ht with e | e
  ·subst e; rw [hl]; exact List.mem_cons_self
  ·have := JF tab use t e t' hl
   split
   ·exact List.mem_cons_of_mem _ this
   ·exact this
theorem zgF (tab : List (Nat × Nat)) : ∀ (use : List Nat), (zbw tab use).Nodup -> ∀ t ∈ use, ∀ t' ∈ use, ∀ x, tab.lookup t = some x -> tab.lookup t' = some x -> t = t'
 | [], _, t, ht, _, _, _, _, _ => by cases ht
 | u :: use, hn, t, ht, t', ht', x, h1, h2 => by
  unfold zbw at hn
  have hn2 : (zbw tab use).Nodup := by
   split at hn
   ·exact (List.nodup_cons.1 hn).2
   ·exact hn
  rcases List.mem_cons.1 ht with e | e <;> rcases List.mem_cons.1 ht' with e' | e'
  ·rw [e, e']
  ·subst e
   rw [h1] at hn
   exact absurd (JF tab use t' e' x h2) (List.nodup_cons.1 hn).1
  ·subst e'
   rw [h2] at hn
   exact absurd (JF tab use t e x h1) (List.nodup_cons.1 hn).1
  ·exact zgF tab use hn2 t e t' e' x h1 h2
theorem zaZ (tab : List (Nat × Nat)) : ∀ (use : List Nat), (∀ p ∈ tab, s.tk p.2 = some true) -> ∀ t ∈ zbw tab use, s.tk t = some true
 | [], _, t, ht => by cases ht
 | u :: use, hl, t, ht => by
  unfold zbw at ht
  split at ht
  ·rename_i x hx
   rcases List.mem_cons.1 ht with e | e
   ·subst e; exact hl _ (zx _ _ _ hx)
   ·exact zaZ tab use hl t e
  ·exact zaZ tab use hl t ht
theorem JW {κ α : Type} [BEq κ] [LawfulBEq κ] : ∀ (l : List (κ × α)) (t : κ) (p : α), l.lookup t = none -> (t, p) ∈ l -> False
 | (t0, p0) :: r, t, p, h, hm => by
  rw [List.lookup_cons] at h
  by_cases e : t = t0
  ·subst e; simp at h
  ·have e2 : (t == t0) = false := by simp [e]
   rw [e2] at h
   rcases List.mem_cons.1 hm with q | q
   ·cases q; exact e rfl
   ·exact JW r t p h q
theorem zel : ∀ (ts ns : List Nat) (t n : Nat), (ts.zip ns).lookup t = some n -> ∃ i, ∃ (h1 : i < ts.length) (h2 : i < ns.length), ts[i] = t /\ ns[i] = n
 | [], ns, t, n, h => by simp at h
 | x :: ts, [], t, n, h => by simp at h
 | x :: ts, y :: ns, t, n, h => by
  rw [List.zip_cons_cons, List.lookup_cons] at h
  by_cases e : t = x
  ·subst e
   simp at h
   exact ⟨0, by simp, by simp, rfl, h⟩
  ·have e2 : (t == x) = false := by simp [e]
   rw [e2] at h
   obtain ⟨i, h1, h2, h3, h4⟩ := zel ts ns t n h
   exact ⟨i + 1, by simpa using h1, by simpa using h2, by simpa using h3, by simpa using h4⟩
theorem Hold0.back {M : Mem} {ρ ρ' : Rho} {σ σ' : Sig} {w : World} {g : Nat} {cs : List AV} {f g' : Nat -> Option Nat} (R : Ren f g' ρ σ ρ' σ') (h : Hold0 M ρ σ w g cs) (x : Bool) : Hold0 M ρ' σ' w g (bif x then cs.map dat0 else cs.map (mp0 f g')) := by
 obtain ⟨ccs, t, h1, h2, h3, h4⟩ := h
 cases x with
 | true => exact ⟨ccs, t, h1, by simpa using h2, λ i a b => h3 i a (by simpa using b), λ i a b => by simpa using (h4 i a (by simpa using b)).dat0.of0⟩
 | false => exact ⟨ccs, t, h1, by simpa using h2, λ i a b => h3 i a (by simpa using b), λ i a b => by simpa using (h4 i a (by simpa using b)).mp0 R⟩
theorem zpk (s : AS) (l sl : List Nat) (f g : Nat -> Option Nat) (b : Nat) (cs : List AV) : (∃ k ∈ sl, l[k]? = some b /\ zbs s l sl f g b cs = cs) \/ ∃ x : Bool, zbs s l sl f g b cs = (bif x then cs.map dat0 else cs.map (mp0 f g)) := by
 unfold zbs
 split
 ·rename_i hx
  split at hx
  ·rename_i k hk
   exact .inl ⟨k, List.contains_iff_mem.1 hx, zfa l b k hk, rfl⟩
  ·cases hx
 ·split
  ·exact .inr ⟨true, rfl⟩
  ·exact .inr ⟨false, rfl⟩
theorem zi7 {f g' : Nat -> Option Nat} (x : Bool) : (bif x then ([] : List AV).map dat0 else ([] : List AV).map (mp0 f g')) = [] := by cases x <;> rfl
set_option maxHeartbeats 1000000 in
theorem zhS (x : Bool) : ∀ (us : List Nat) (s : AS), (s.aps (us.map λ t => Wr.tok t x)).fm = s.fm
 | [], _ => rfl
 | u :: us, s => zhS x us (s.ap (.tok u x))
theorem CallOk.fmx {f : FuncId} {args : List AV} {bs : List (List AV)} {r : Ret} (h : CallOk P f args bs r) (x : Bool) : CallOk P f args bs (bif x then r else r.nofm) := by
 cases x with
 | true => exact h
 | false =>
  exact ⟨h.1, λ M w cargs gs σ h1 h2 h3 h4 h5 h6 h7 h8 h9 h10 => (h.2 M w cargs gs σ h1 h2 h3 h4 h5 h6 h7 h8 h9 h10).mono λ e w' ⟨c, M', σ', gn, he, l⟩ => ⟨c, M', σ', gn, he, l.nofm⟩⟩
theorem zcx {Z : Mem -> World -> Array Value -> List (Option Nat) -> Sig -> Prop} {cargs : Array Value} {vs : List AV} {r : Ret} {o : Oper} {l : List Nat} {bs : List (List AV)} {W : List Wr} (h : SimW B M ρ σ s a w) (hvl : cargs.size = vs.length) (hall : ∀ i (h1 : i < cargs.size) (h2 : i < vs.length), Rd M ρ σ cargs[i] vs[i]) (hl : JA s vs = l) (hbs : jl s (idx l) 0 l = some bs)
  (hs : zbu s l o.dst (zaN s 0 vs ++ jv s 0 l) r = some W)
  (call : ∀ (M : Mem) (w : World) (cargs : Array Value) (gs : List (Option Nat)) (σ : Sig), zpd M w gs (InT σ r.use) -> (∀ g o v, M g o = some v -> w.cell? ⟨g, o, none⟩ = some v) -> (∀ (k g : Nat), gs[k]? = some (some g) -> g < w.heap.size) -> Inj gs -> gs.length = bs.length -> cargs.size = (jV s (idx l) 0 vs).length ->
  (∀ i (h : i < cargs.size) (h' : i < (jV s (idx l) 0 vs).length), Rd M (gsR gs) σ cargs[i] (jV s (idx l) 0 vs)[i]) -> (∀ k (h : k < gs.length) (h' : k < bs.length), jR M (gsR gs) σ w gs[k] bs[k]) -> (∀ k ∈ r.sl, ∀ (h : k < gs.length) (h' : k < bs.length), jR M JD jE w gs[k] bs[k]) -> Toks M w σ r.use gs -> Z M w cargs gs σ) :
  ∃ σ0, Z M w cargs (l.map ρ) σ0 /\ (∀ g, InT σ0 r.use g -> ∃ t sp, s.tk t = some true /\ σ t = some sp /\ sp.g = g) /\ ∀ c M' w' σ' gn, Left M w (l.map ρ) σ0 r c M' w' σ' gn -> Sim B (s.aps W) (a.put o.dst c) w' := by
    have hn := zj5 s vs
    rw [hl] at hn
    obtain ⟨b1, b2⟩ := JU s _ _ _ _ hbs
    have bmap := zd7 s _ _ _ _ hbs
    have hbl : ∀ b ∈ l, s.bx b ≠ none := λ b hb => by
     obtain ⟨k, hk, rfl⟩ := List.getElem_of_mem hb
     obtain ⟨cs, c1, -⟩ := b2 k hk (by omega)
     rw [c1]; simp
    obtain ⟨tab, htab⟩ : ∃ tab, zaN s 0 vs ++ jv s 0 l = tab := ⟨_, rfl⟩
    rw [htab] at hs
    have hlive : ∀ p ∈ tab, s.tk p.2 = some true := λ p hp => by
     rw [<- htab] at hp
     rcases List.mem_append.1 hp with hp | hp
     ·exact zd3 vs 0 p hp
     ·exact zcv l 0 p hp
    unfold zbu at hs
    obtain ⟨us, hus⟩ : ∃ us, zbw tab r.use = us := ⟨_, rfl⟩
    rw [hus] at hs
    ·unfold zoa at hs
     obtain ⟨ns, hns⟩ : ∃ ns, zuR s l o.dst r.toks.length = ns := ⟨_, rfl⟩
     rw [hns] at hs
     split at hs
     ·rename_i hcond
      simp only [Bool.and_eq_true] at hcond
      obtain ⟨duse, dsl, d0, d1, d2, d3, -, d4, d5, d6⟩ := hcond
      have d5' : ns.length = r.toks.length := by simpa using d5
      have d6' : r.outs.length = l.length := by simpa using d6
      have us_nd := zF us d1
      have ns_nd := zF ns d2
      have tk_nd := zF r.toks d3
      have ns_fr : ∀ t ∈ ns, s.tk t = none := λ t ht => by
       have := List.all_eq_true.1 d4 t ht
       simpa using this
      -- the tokens that the call sees
      let σ0 : Sig := λ t => match (tab ++ zoC 0 l).lookup t with | some t' => σ t' | none => none
      have hσ0 : ∀ t t', (t, t') ∈ tab ++ zoC 0 l -> σ0 t = σ t' := λ t t' hm => by
       show (match (tab ++ zoC 0 l).lookup t with | some t' => σ t' | none => none) = _
       rw [Je _ d0 t t' hm]
      have hσ0' : ∀ t sp, σ0 t = some sp -> ∃ t', σ t' = some sp := λ t sp hsp => by
       have hsp' : (match (tab ++ zoC 0 l).lookup t with | some t' => σ t' | none => none) = some sp := hsp
       split at hsp'
       ·exact ⟨_, hsp'⟩
       ·cases hsp'
      have tab_lookup : ∀ t t', tab.lookup t = some t' -> σ0 t = σ t' := λ t t' hm => hσ0 t t' (List.mem_append_left _ (zx _ _ _ hm))
      have R0 : Ren (idx l) no1 ρ σ (gsR (l.map ρ)) σ0 := by
       refine ⟨λ b k g hk hb => ?_, λ t t' sp ht => ?_, λ b k sp hk hsp => ?_⟩
       ·have := zfa l b k hk
        show ((l.map ρ)[k]?).getD none = some g
        rw [List.getElem?_map, this]
        exact hb
       ·cases ht
       ·have := zfa l b k hk
        obtain ⟨hlt, e⟩ := List.getElem?_eq_some_iff.1 this
        have hm := zhi l 0 k hlt
        rw [Nat.zero_add, e] at hm
        rw [hσ0 _ _ (List.mem_append_right _ hm)]
        exact hsp
      have useOf : ∀ t ∈ r.use, ∀ sp, σ0 t = some sp -> ∃ t' ∈ us, tab.lookup t = some t' /\ s.tk t' = some true /\ σ0 t = σ t' := λ t ht sp hsp => by
       have hc := List.all_eq_true.1 duse t ht
       cases hl1 : tab.lookup t with
       | some t' => exact ⟨t', hus ▸ JF tab r.use t ht t' hl1, rfl, hlive _ (zx _ _ _ hl1), tab_lookup _ _ hl1⟩
       | none =>
        rw [hl1] at hc
        have hc' : (zoC 0 l).lookup t = none := by simpa using hc
        have hsp' : (match (tab ++ zoC 0 l).lookup t with | some t' => σ t' | none => none) = some sp := hsp
        split at hsp'
        ·rename_i t' hl2
         rcases List.mem_append.1 (zx _ _ _ hl2) with hm | hm
         ·exact (JW _ _ _ hl1 hm).elim
         ·exact (JW _ _ _ hc' hm).elim
        ·cases hsp'
      have tokgs : ∀ t' sp, s.tk t' = some true -> σ t' = some sp -> some sp.g ∉ l.map ρ := λ t' sp ht hsp hin => by
       obtain ⟨b, hb1, hb2⟩ := List.mem_map.1 hin
       exact (h.tok t' sp ht hsp).2.2.2 b (hbl b hb1) hb2
      have hglob : zpd M w (l.map ρ) (InT σ0 r.use) := λ g cs hg => by
       obtain ⟨q1, ⟨ty, z, q2⟩, q3, q4⟩ := h.gl g cs hg
       have hlt : g < B.w0.heap.size := (Array.getElem?_eq_some_iff.1 q2).1
       refine ⟨λ j => ⟨(q1 j).1, λ hj => h.memS _ _ _ ((q1 j).2 hj)⟩, ⟨ty, z, (h.block g hlt q3 q4).trans q2⟩, λ hin => ?_, λ hin => ?_⟩
       ·obtain ⟨b, hb1, hb2⟩ := List.mem_map.1 hin
        cases hq : s.bx b with
        | none => exact hbl b hb1 hq
        | some cs' =>
         rcases h.box b cs' hq with ⟨-, e⟩ | ⟨g', q5, -, -, q6⟩
         ·rw [hb2] at e; cases e
         ·rw [hb2] at q5
          cases q5
          rcases q6 with q6 | q6
          ·omega
          ·exact q3 q6
       ·obtain ⟨t, ht, sp, hsp, e⟩ := hin
        obtain ⟨t', -, -, hlv, e2⟩ := useOf t ht sp hsp
        rcases (h.tok t' sp hlv (e2 ▸ hsp)).1 with q6 | q6
        ·omega
        ·exact q4 (e ▸ q6)
      have C := call M w cargs (l.map ρ) σ0 hglob h.mem (λ k g hk => by
       rw [List.getElem?_map] at hk
       obtain ⟨b, hb1, hb2⟩ := Option.map_eq_some_iff.1 hk
       exact h.rlt b g hb2) (λ i j g hi hj => by
       rw [List.getElem?_map] at hi hj
       obtain ⟨b, hb1, hb2⟩ := Option.map_eq_some_iff.1 hi
       obtain ⟨b', hb1', hb2'⟩ := Option.map_eq_some_iff.1 hj
       obtain ⟨hi1, hi2⟩ := List.getElem?_eq_some_iff.1 hb1
       obtain ⟨hj1, hj2⟩ := List.getElem?_eq_some_iff.1 hb1'
       have e : b = b' := h.inj b b' g (hbl b (hi2 ▸ List.getElem_mem _)) (hbl b' (hj2 ▸ List.getElem_mem _)) hb2 hb2'
       have hnd := List.pairwise_iff_getElem.1 hn
       rcases Nat.lt_trichotomy i j with hlt | heq | hlt
       ·exact absurd (hi2.trans (e.trans hj2.symm)) (hnd i j hi1 hj1 hlt)
       ·exact heq
       ·exact absurd (hj2.trans (e.symm.trans hi2.symm)) (hnd j i hj1 hi1 hlt)) (by rw [List.length_map]; exact b1.symm) (by rw [(zcp s _ vs 0).1]; exact hvl) (λ i h1 h2 => by
       obtain ⟨z1, z2⟩ := zcp s (idx l) vs 0
       have h2' : i < vs.length := by omega
       rw [z2 i h2 h2', Nat.zero_add]
       refine Rd.tkV R0 (hall i h1 h2') (λ n xs t sp e hk hsp => ?_)
       have hm := zix (s := s) vs 0 i h2' (tI i, t) (by rw [Nat.zero_add, e]; exact zsm hk)
       rw [hσ0 (tI i) t (List.mem_append_left _ (htab ▸ List.mem_append_left _ hm))]
       exact hsp) (λ k h1 h2 => by
       have h1' : k < l.length := by simpa using h1
       obtain ⟨cs, c1, c2⟩ := b2 k h1' h2
       rw [Nat.zero_add] at c2
       rw [List.getElem_map, c2]
       rcases h.box _ _ c1 with ⟨e1, e2⟩ | ⟨g, g1, hh0, g6, g7⟩
       rotate_left
       obtain ⟨ccs, t, g2, g3, g4, g5⟩ := hh0.cells (bmap _ (List.getElem_mem _))
       rotate_left
       ·subst e1
        refine .inl ⟨?_, e2⟩
        split <;> rfl
       ·refine .inr ⟨g, g1, ?_, g6⟩
        split
        ·exact ⟨ccs, t, g2, by simpa using g3, λ i a b => g4 i a (by simpa using b), λ i a b => by simpa using (g5 i a (by simpa using b)).dat0.of0⟩
        ·rename_i hvm
         obtain ⟨z1, z2⟩ := zd9 s (idx l) k cs 0
         refine ⟨ccs, t, g2, by rw [z1]; exact g3, λ i a b => g4 i a (by omega), λ i a b => ?_⟩
         have b' : i < cs.length := by omega
         rw [z2 i b b', Nat.zero_add]
         refine Rd.tkV R0 (g5 i a b') (λ n xs t sp e hk hsp => ?_)
         have hm := zf4 (s := s) k cs 0 i b' (tC k i 0, t) (by rw [Nat.zero_add, e]; exact zsm hk)
         have hm2 := zf2 (s := s) l 0 k h1' cs hvm c1 (tC k i 0, t) (by rw [Nat.zero_add]; exact hm)
         rw [hσ0 (tC k i 0) t (List.mem_append_left _ (htab ▸ List.mem_append_right _ hm2))]
         exact hsp) (λ k hk h1 h2 => by
       have h1' : k < l.length := by simpa using h1
       obtain ⟨cs, c1, c2⟩ := b2 k h1' h2
       rw [Nat.zero_add] at c2
       have hm := List.all_eq_true.1 dsl k hk
       rw [List.getElem?_eq_getElem h1'] at hm
       simp only at hm
       rw [List.getElem_map, c2]
       cases hvm : s.tk (vm l[k]) with
       | none => rw [hvm] at hm; cases hm
       | some x =>
        simp only
        rcases h.box _ _ c1 with ⟨e1, e2⟩ | ⟨g, g1, hh0, g6, g7⟩
        rotate_left
        obtain ⟨ccs, t, g2, g3, g4, g5⟩ := hh0.cells (bmap _ (List.getElem_mem _))
        rotate_left
        ·subst e1; exact .inl ⟨rfl, e2⟩
        ·exact .inr ⟨g, g1, ⟨ccs, t, g2, by simpa using g3, λ i a b => g4 i a (by simpa using b), λ i a b => by simpa using (g5 i a (by simpa using b)).dat0⟩, g6⟩) (by
       refine ⟨λ t ht sp hsp => ?_, λ t sp hsp => ?_, λ t ht t2 ht2 sp sp2 hsp hsp2 hg => ?_⟩
       ·obtain ⟨t', z1, z2, z3, z4⟩ := useOf t ht sp hsp
        rw [z4] at hsp
        obtain ⟨p1, p2, p3, p4⟩ := h.tok t' sp z3 hsp
        exact ⟨p2, p3, tokgs t' sp z3 hsp⟩
       ·obtain ⟨t', z⟩ := hσ0' t sp hsp
        exact h.cap t' sp z
       ·obtain ⟨t', z1, z2, z3, z4⟩ := useOf t ht sp hsp
        obtain ⟨t2', y1, y2, y3, y4⟩ := useOf t2 ht2 sp2 hsp2
        rw [z4] at hsp
        rw [y4] at hsp2
        have e := h.tinj t' t2' sp sp2 z3 y3 hsp hsp2 hg
        rw [<- e] at y2
        exact zgF tab r.use (hus ▸ us_nd) t ht t2 ht2 t' z2 y2)
      refine ⟨σ0, C, λ g ⟨t, ht, sp, hsp, hg⟩ => (by
       obtain ⟨t', z1, z2, z3, z4⟩ := useOf t ht sp hsp
       exact ⟨t', sp, z3, by rw [<- z4]; exact hsp, hg⟩), λ c M' w' σ' gn left => ?_⟩
      -- the used tokens are given up
      have hd := SimW.deads us _ h
      have dtk := ziK us s
      obtain ⟨dk1, dk2, dk3⟩ := zal false us s
      have dbx : ∀ b, (s.aps (us.map λ t => Wr.tok t false)).bx b = s.bx b := λ b => by unfold AS.bx; rw [dk3]
      have hT : ∀ g, InT σ0 r.use g -> ∃ t', s.tk t' = some true /\ t' ∈ us /\ ∃ sp, σ t' = some sp /\ sp.g = g := λ g ⟨t, ht, sp, hsp, hg⟩ => by
       obtain ⟨t', z1, z2, z3, z4⟩ := useOf t ht sp hsp
       exact ⟨t', z3, z1, sp, by rw [<- z4]; exact hsp, hg⟩
      have stk : ∀ t sp, (s.aps (us.map λ t => Wr.tok t false)).tk t = some true -> σ t = some sp -> s.tk t = some true /\ sp.g < w.heap.size /\ ¬ InT σ0 r.use sp.g := λ t sp ht hsp => by
       rw [dtk] at ht
       split at ht
       ·cases ht
       ·rename_i hnu
        refine ⟨ht, (h.cap t sp hsp).lt, λ hin => ?_⟩
        obtain ⟨t', z1, z2, sp', z3, z4⟩ := hT _ hin
        have := h.tinj t t' sp sp' ht z1 hsp z3 z4.symm
        exact hnu (this ▸ z2)
      have hlr : l.length = r.outs.length := d6'.symm
      have haf := hd.after (l := l) (T := InT σ0 r.use) (λ b hb => by rw [dbx]; exact hbl b hb) left.sub left.mem left.same left.frm (λ g hin => by
       obtain ⟨t', z1, z2, sp, z3, z4⟩ := hT g hin
       obtain ⟨p1, p2, p3, p4⟩ := h.tok t' sp z1 z3
       rw [z4] at p1 p4
       exact ⟨z4 ▸ (h.cap t' sp z3).lt, p1, λ b hb => p4 b (by rw [<- dbx]; exact hb), λ t sp' ht hsp e => (stk t sp' ht hsp).2.2 (e ▸ hin)⟩) (λ g hin => by
       obtain ⟨t', z1, z2, sp, z3, z4⟩ := hT g hin
       exact ⟨_, z4 ▸ h.cap t' sp z3⟩) bmap left.rows (λ b hb g hg => by
       cases hbx : s.bx b with
       | none => exact absurd hbx (hbl b hb)
       | some cs0 =>
        rcases h.box b cs0 hbx with ⟨-, e⟩ | ⟨g', g1, hh0, -⟩
        ·rw [hg] at e; cases e
        ·obtain ⟨ccs, t, g2, g3, -⟩ := hh0.cells (bmap b hb)
         rw [hg] at g1; cases g1
         obtain ⟨ccs', t', e1, -⟩ := left.rows g 0 ⟨ccs, t, g2, Nat.zero_le _⟩
         exact ⟨ccs', t', e1⟩) r.outs hlr hn
      obtain ⟨f0, f1, f2, f4, f5⟩ := jI (λ _ _ => []) l r.outs (s.aps (us.map λ t => Wr.tok t false)) hn hlr
      obtain ⟨s2, hs2⟩ : ∃ s2, (s.aps (us.map λ t => Wr.tok t false)).aps (ZK (λ _ _ => []) l r.outs) = s2 := ⟨_, rfl⟩
      rw [hs2] at haf f0 f1 f2 f4 f5
      have tk2' : ∀ t, s2.tk t = if t ∈ us then some false else s.tk t := λ t => by
       rw [<- dtk]; unfold AS.tk; rw [f2, show s2.fm = (s.aps (us.map λ t => Wr.tok t false)).fm from hs2 ▸ zbB _ _ _ _]
      have usl : ∀ t ∈ us, s.tk t = some true := λ t ht => zaZ tab r.use hlive t (hus ▸ ht)
      have tk2n : ∀ t, s.tk t = none -> s2.tk t = none := λ t ht => by
       rw [tk2', if_neg (λ hm => by rw [usl t hm] at ht; cases ht)]; exact ht
      have stk2 : ∀ t sp, s2.tk t = some true -> σ t = some sp -> s.tk t = some true /\ sp.g < w.heap.size /\ ¬ InT σ0 r.use sp.g := λ t sp ht hsp => stk t sp (by rw [dtk, <- tk2']; exact ht) hsp
      have bx2 : ∀ b, s2.bx b ≠ none -> s.bx b ≠ none := λ b hb => by
       by_cases hm : b ∈ l
       ·exact hbl b hm
       ·rw [f4 b hm, dbx] at hb; exact hb
      have tokg : ∀ t, r.lv t -> ∀ sp, σ' t = some sp -> (B.w0.heap.size <= sp.g \/ B.tgs sp.g) /\ (∀ b, s.bx b ≠ none -> ρ b ≠ some sp.g) /\ ∀ t' sp', s2.tk t' = some true -> σ t' = some sp' -> sp'.g ≠ sp.g := λ t ht sp hsp => by
       obtain ⟨z1, z2, z3, z4⟩ := left.tok t ht sp hsp
       rcases z1 with z1 | z1
       ·refine ⟨.inl (Nat.le_trans h.size z1), λ b hb e => ?_, λ t' sp' ht' hs' e => ?_⟩
        ·have := h.rlt b _ e; omega
        ·have := (stk2 t' sp' ht' hs').2.1; omega
       ·obtain ⟨t', y1, y2, sp', y3, y4⟩ := hT _ z1
        obtain ⟨p1, p2, p3, p4⟩ := h.tok t' sp' y1 y3
        rw [y4] at p1 p4
        exact ⟨p1, p4, λ t2 sp2 ht2 hs2 e => (stk2 t2 sp2 ht2 hs2).2.2 (e ▸ z1)⟩
      obtain ⟨σ1, hown, up1, at1, else1⟩ := SimW.owns ns (r.toks.map σ') s2 σ haf (by rw [List.length_map]; exact d5') ns_nd (λ t ht => tk2n t (ns_fr t ht)) (λ sp hsp => by
       obtain ⟨t, ht, e⟩ := List.mem_map.1 hsp
       obtain ⟨z1, z2, z3, z4⟩ := left.tok t (.inl ht) sp e
       obtain ⟨y1, y2, y3⟩ := tokg t (.inl ht) sp e
       exact ⟨y1, z2, z3, λ b hb => y2 b (bx2 b hb), left.cap t sp e, y3⟩) (λ i j sp sp' hi hj hg => by
       rw [List.getElem?_map] at hi hj
       obtain ⟨t, hi1, hi2⟩ := Option.map_eq_some_iff.1 hi
       obtain ⟨t', hj1, hj2⟩ := Option.map_eq_some_iff.1 hj
       obtain ⟨i1, i2⟩ := List.getElem?_eq_some_iff.1 hi1
       obtain ⟨j1, j2⟩ := List.getElem?_eq_some_iff.1 hj1
       have e := left.inj t (.inl (i2 ▸ List.getElem_mem _)) t' (.inl (j2 ▸ List.getElem_mem _)) sp sp' hi2 hj2 hg
       have hnd := List.pairwise_iff_getElem.1 tk_nd
       rcases Nat.lt_trichotomy i j with hlt | heq | hlt
       ·exact absurd (i2.trans (e.trans j2.symm)) (hnd i j i1 j1 hlt)
       ·exact heq
       ·exact absurd (j2.trans (e.symm.trans i2.symm)) (hnd j i j1 i1 hlt))
      obtain ⟨k1, k2, k3⟩ := zal true ns s2
      have k4 := zhT true ns s2
      obtain ⟨s3, hs3⟩ : ∃ s3, s2.aps (ns.map λ t => Wr.tok t true) = s3 := ⟨_, rfl⟩
      rw [hs3] at hown k1 k2 k3 k4
      have bx3 : ∀ b, s3.bx b = s2.bx b := λ b => by unfold AS.bx; rw [k3]
      have tk3n : ∀ t, t ∉ ns -> s.tk t = none -> s3.tk t = none := λ t hn' ht => by
       rw [k4, if_neg hn']; exact tk2n t ht
      have nin3 : s3.nin = s.nin := k1.trans (f0.trans dk1)
      have ren : ∀ (ρ4 : Rho) (σ5 : Sig), (∀ b ∈ l, ρ4 b = ρ b) -> (∀ t sp, σ1 t = some sp -> σ5 t = some sp) -> (∀ d, r.new ≠ none -> o.dst = some d -> ∀ go, gn = [go] -> ρ4 d = go /\ ∀ sp, σ' (vk l.length) = some sp -> σ5 (vk d) = some sp) -> Ren (fB l o.dst r) (λ t => (r.toks.zip ns).lookup t) (gsR (l.map ρ ++ gn)) σ' ρ4 σ5 := λ ρ4 σ5 h1 h2 h3 => by
       have fBin : ∀ k b', fB l o.dst r k = some b' -> (∃ hk : k < l.length, l[k] = b') \/ (k = l.length /\ o.dst = some b' /\ ∃ cs, r.new = some cs) := λ k b' hk => by
        unfold fB at hk
        split at hk
        ·rename_i b hb
         cases hk
         obtain ⟨hlt, e⟩ := List.getElem?_eq_some_iff.1 hb
         exact .inl ⟨hlt, e⟩
        ·split at hk
         ·rename_i cs d hnew hdst
          split at hk
          ·rename_i e; cases hk; exact .inr ⟨e, hdst, cs, hnew⟩
          ·cases hk
         ·cases hk
       refine ⟨λ k b' x hk hx => ?_, λ t t' sp ht hsp => ?_, λ k b' sp hk hsp => ?_⟩
       ·rcases fBin k b' hk with ⟨hlt, e⟩ | ⟨e, hdst, cs, hnew⟩
        ·subst e
         rw [h1 _ (List.getElem_mem _)]
         have hx' : ((l.map ρ ++ gn)[k]?).getD none = some x := hx
         rw [List.getElem?_append_left (by simpa using hlt), List.getElem?_map, List.getElem?_eq_getElem hlt] at hx'
         exact hx'
        ·obtain ⟨go, hgn, -⟩ := left.new cs hnew
         obtain ⟨e1, -⟩ := h3 b' (by rw [hnew]; simp) hdst go hgn
         have hx' : ((l.map ρ ++ gn)[k]?).getD none = some x := hx
         rw [e, hgn, List.getElem?_append_right (by simp), List.length_map, Nat.sub_self] at hx'
         rw [e1]
         exact hx'
       ·obtain ⟨i, i1, i2, e1, e2⟩ := zel _ _ _ _ ht
        have := at1 i i2 (by simpa using i1)
        rw [List.getElem_map, e1, e2] at this
        exact h2 _ _ (this.trans hsp)
       ·rcases fBin k b' hk with ⟨hlt, e⟩ | ⟨e, hdst, cs, hnew⟩
        ·subst e
         have q := left.capin k (by simpa using hlt) sp hsp
         have hm := zhi l 0 k hlt
         rw [Nat.zero_add] at hm
         rw [hσ0 _ _ (List.mem_append_right _ hm)] at q
         exact h2 _ _ (up1 _ _ q)
        ·obtain ⟨go, hgn, -⟩ := left.new cs hnew
         obtain ⟨-, e1⟩ := h3 b' (by rw [hnew]; simp) hdst go hgn
         rw [e] at hsp
         exact e1 sp hsp
      have fin : ∀ (s5 : AS) (ρ4 : Rho) (σ5 : Sig), SimW B M' ρ4 σ5 s5 a w' -> Ren (fB l o.dst r) (λ t => (r.toks.zip ns).lookup t) (gsR (l.map ρ ++ gn)) σ' ρ4 σ5 -> (∀ b ∈ l, ρ4 b = ρ b) -> (∀ b ∈ l, s5.bx b = some []) -> SimW B M' ρ4 σ5 (s5.aps (ZK (zbs s l r.sl (fB l o.dst r) (λ t => (r.toks.zip ns).lookup t)) l r.outs)) a w' := λ s5 ρ4 σ5 h5 R h1 h2 => by
       refine h5.reboxes _ _ _ _ hn (λ k hk hk' => ⟨_, h2 _ (List.getElem_mem _), ?_⟩)
       have ho := left.outs k (by simpa using hk) hk'
       rw [List.getElem_map] at ho
       rw [h1 _ (List.getElem_mem _)]
       rcases zpk s l r.sl (fB l o.dst r) (λ t => (r.toks.zip ns).lookup t) l[k] r.outs[k] with ⟨k', e1, e2, e⟩ | ⟨x, e⟩
       ·obtain ⟨hlt', e3⟩ := List.getElem?_eq_some_iff.1 e2
        have hkk : k' = k := by
         have hnd := List.pairwise_iff_getElem.1 hn
         rcases Nat.lt_trichotomy k' k with hlt | heq | hlt
         ·exact absurd e3 (hnd k' k hlt' hk hlt)
         ·exact heq
         ·exact absurd e3.symm (hnd k k' hk hlt' hlt)
        subst hkk
        have hda := left.data k' e1 (by simpa using hk) hk'
        rw [List.getElem_map] at hda
        rw [e]
        rcases hda with q | ⟨g, q1, ⟨ccs, t, z1, z2, z3, z4⟩, q3⟩
        ·exact .inl q
        ·exact .inr ⟨g, q1, ccs, t, z1, z2, z3, λ i a b => (z4 i a b).of0⟩
       rw [e]
       rcases ho with ⟨q1, q2⟩ | ⟨g, q1, q2, q3⟩
       ·exact .inl ⟨by rw [q1]; exact zi7 x, q2⟩
       ·exact .inr ⟨g, q1, q2.back R x⟩
      have bxl3 : ∀ b ∈ l, s3.bx b = some [] := λ b hb => by
       obtain ⟨k, hk, rfl⟩ := List.getElem_of_mem hb
       rw [bx3]
       exact f5 k hk (by omega)
      split at hs
      ·rename_i cs d hnew hdst
       split at hs
       ·rename_i hbd htd
        split at hs
        ·rename_i hc
         obtain ⟨hnid, hvk, hfo⟩ := hc
         cases hs
         obtain ⟨go, hgn, hbox, hfresh⟩ := left.new cs hnew
         have hdl : d ∉ l := λ hm => hbl d hm hbd
         have b3 : s3.bx d = none := by rw [bx3, f4 d hdl, dbx]; exact hbd
         have t3 : s3.tk (vk d) = none := tk3n _ (λ hm => by
          rw [<- List.contains_iff_mem, hvk] at hm; cases hm) htd
         have n3 : s3.nin <= d := by rw [nin3]; exact hnid
         -- the family
         have k1at : ∀ t ∈ ns, ∀ sp, σ1 t = some sp -> ∃ t' ∈ r.toks, σ' t' = some sp := λ t hm sp hsp => by
          obtain ⟨i, hi, e2⟩ := List.getElem_of_mem hm
          have := at1 i hi (by rw [List.length_map]; omega)
          rw [List.getElem_map, e2, hsp] at this
          exact ⟨_, List.getElem_mem _, this.symm⟩
         have fams : ∃ σ7 s7, s3.aps (zDr d r.fm) = s7 /\ SimW B M' ρ σ7 s7 a w' /\ (∀ t sp, σ1 t = some sp -> σ7 t = some sp) /\ (∀ j N, r.fm = some (j, N) -> ∀ t sp, TOB + j <= t -> t < TOB + N -> σ' t = some sp -> σ7 t = some sp) /\ s7.bx d = none /\ s7.tk (vk d) = none /\ s7.nin <= d /\ (∀ b, s7.bx b = s3.bx b) /\ ∀ t sp, s7.tk t = some true -> σ7 t = some sp -> ∀ g, go = some g -> sp.g ≠ g := by
          have live3 : ∀ t sp, s3.tk t = some true -> σ1 t = some sp -> ∀ g, go = some g -> sp.g ≠ g := λ t sp ht hsp g hg e => by
           have hgs := hfresh g hg
           rw [k4] at ht
           by_cases hm : t ∈ ns
           ·obtain ⟨t', m1, m2⟩ := k1at t hm sp hsp
            refine (left.tok _ (.inl m1) sp m2).2.2.2 ?_
            rw [hgn, e, <- hg]
            simp
           ·rw [if_neg hm] at ht
            rw [else1 t hm] at hsp
            have := (stk2 t sp ht hsp).2.1
            omega
          cases hrf : r.fm with
          | none => exact ⟨σ1, s3, rfl, hown, λ _ _ h => h, λ j N e => (by cases e), b3, t3, n3, λ _ => rfl, live3⟩
          | some p =>
           obtain ⟨j, N⟩ := p
           rw [hrf] at hfo
           obtain ⟨o1, o2, o3, o4, o5⟩ := znx hfo
           have lvF : ∀ t, TOB + j <= t -> t < TOB + N -> r.lv t := λ t h1 h2 => .inr ⟨j, N, hrf, h1, h2⟩
           have fm3 : s3.fm = none := by
            rw [<- hs3, zhS, <- hs2, zbB, zhS]; exact o1
           have tkh : ∀ t, TOB <= t -> s3.tk t = none := λ t ht => tk3n t (λ hm => by have := o3 t hm; omega) (by rw [AS.tk_nofm o1]; exact jb o2 ht)
           obtain ⟨σ7, w1, w2, w3, w4⟩ := hown.famIn (σ' := σ') (j := j) (N := N) d fm3 tkh (λ t sp h1 h2 hsp => by
            obtain ⟨z1, z2, z3, z4⟩ := left.tok t (lvF t h1 h2) sp hsp
            obtain ⟨y1, y2, y3⟩ := tokg t (lvF t h1 h2) sp hsp
            refine ⟨y1, z2, z3, λ b hb => y2 b (bx2 b (by rw [<- bx3]; exact hb)), left.cap t sp hsp, λ t' sp' ht' hs' e => ?_⟩
            rw [k4] at ht'
            by_cases hm : t' ∈ ns
            ·obtain ⟨t2, m1, m2⟩ := k1at t' hm sp' hs'
             have := left.inj t2 (.inl m1) t (lvF t h1 h2) sp' sp m2 hsp e
             have := o4 t2 m1
             omega
            ·rw [if_neg hm] at ht'
             rw [else1 t' hm] at hs'
             exact y3 t' sp' ht' hs' e) (λ t t' sp sp' h1 h2 h3 h4 e1 e2 hg => left.inj t (lvF t h1 h2) t' (lvF t' h3 h4) sp sp' e1 e2 hg)
           have tlo : ∀ t, t < TOB -> (s3.ap (.fm (some (d, j, N)))).tk t = s3.tk t := λ t ht => by
            rw [AS.tk_fm, AS.tk_nofm fm3, jJ ht]
            cases s3.tok.lookup t <;> rfl
           refine ⟨σ7, _, rfl, w1, w2, λ j' N' e t sp h1 h2 hsp => ?_, b3, ?_, n3, λ _ => rfl, λ t sp ht hsp => ?_⟩
           ·cases e
            rw [w3 t h1 h2]; exact hsp
           ·show (s3.ap (.fm (some (d, j, N)))).tk (vk d) = none
            rw [tlo _ o5]; exact t3
           ·by_cases hr : TOB + j <= t /\ t < TOB + N
            ·rw [w3 t hr.1 hr.2] at hsp
             intro g hg e
             refine (left.tok t (lvF t hr.1 hr.2) sp hsp).2.2.2 ?_
             rw [hgn, e, <- hg]
             simp
            ·rw [w4 t hr] at hsp
             refine live3 t sp ?_ hsp
             by_cases hlo : t < TOB
             ·rw [<- tlo t hlo]; exact ht
             ·exfalso
              have ht2 : (s3.ap (.fm (some (d, j, N)))).tk t = some true := ht
              rw [AS.tk_fm] at ht2
              have l0 : s3.tok.lookup t = none := by rw [<- AS.tk_nofm fm3]; exact tkh t (by omega)
              rw [l0] at ht2
              obtain ⟨i, rfl⟩ : ∃ i, t = TOB + i := ⟨t - TOB, by omega⟩
              by_cases q : N <= i
              ·have e : zfA (some (d, j, N)) (TOB + i) = none := Jj q
               rw [e] at ht2; cases ht2
              ·have e : zfA (some (d, j, N)) (TOB + i) = some (decide (j <= i)) := ZU (by omega)
               rw [e, decide_eq_false (by omega)] at ht2; cases ht2
         obtain ⟨σ7, s7, hs7, hown7, up7, fam7, b7, t7, n7, bx7, live7⟩ := fams
         have bxl7 : ∀ b ∈ l, s7.bx b = some [] := λ b hb => by rw [bx7]; exact bxl3 b hb
         -- the new variable
         have h4 : ∃ ρ4, SimW B M' ρ4 σ7 (s7.ap (.box d (some []))) a w' /\ ρ4 d = go /\ ∀ b, b ≠ d -> ρ4 b = ρ b := by
          rcases hbox with ⟨q1, q2⟩ | ⟨g, q1, q2, q3⟩
          ·exact ⟨ρ, hown7.ghost d n7 b7 t7, by rw [q2]; exact hown7.rnone b7 t7, λ _ _ => rfl⟩
          ·have hg := hfresh g q1
           refine ⟨zam ρ d g, hown7.adopt d n7 b7 t7 g [] ?_ q3 (Nat.le_trans h.size hg) (λ b hb e => by have := h.rlt b g e; omega) (λ t sp ht hsp e => live7 t sp ht hsp g q1 e), by simp [zam, q1], λ b hb => by simp [zam, hb]⟩
           ·obtain ⟨ccs, ty, z1, z2, -⟩ := q2
            exact .inl ⟨ccs, ty, z1, Nat.zero_le _, (λ i _ h => by cases h), (λ i _ h => by cases h)⟩
         obtain ⟨ρ4, h4, r1', r2'⟩ := h4
         have h5 : ∃ σ5, SimW B M' ρ4 σ5 ((s7.ap (.box d (some []))).ap (.tok (vk d) false)) a w' /\ (∀ t sp, σ7 t = some sp -> σ5 t = some sp) /\ ∀ sp, σ' (vk l.length) = some sp -> σ5 (vk d) = some sp := by
          have t4 : (s7.ap (.box d (some []))).tk (vk d) = none := t7
          cases hq : σ' (vk l.length) with
          | none => exact ⟨σ7, h4.mark (vk d) t4, λ _ _ h => h, λ sp e => by cases e⟩
          | some sp =>
           exact ⟨_, h4.setcap (vk d) t4 sp (left.cap _ sp hq), zc9 (h4.snone t4), λ sp' e => by cases e; simp [jd]⟩
         obtain ⟨σ5, h5, u5, v5⟩ := h5
         have h6 : SimW B M' ρ4 σ5 (((s7.ap (.box d (some []))).ap (.tok (vk d) false)).aps (bif zgh r.val then [.tok (vm d) false] else [])) a w' := by
          cases zgh r.val
          ·exact h5
          ·exact h5.tokdead (vm d)
         have hld : ∀ b ∈ l, b ≠ d := λ b hb e => hdl (e ▸ hb)
         have R := ren ρ4 σ5 (λ b hb => r2' b (hld b hb)) (λ t sp e => u5 t sp (up7 t sp e)) (λ d' _ hd' go' hg' => by
          rw [hdst] at hd'
          cases hd'
          rw [hgn] at hg'
          cases hg'
          exact ⟨r1', v5⟩)
         have bx6 : ∀ b, ((((s7.ap (.box d (some []))).ap (.tok (vk d) false)).aps (bif zgh r.val then [.tok (vm d) false] else []))).bx b = if b = d then some [] else s7.bx b := λ b => by
          have e : ∀ x : Bool, ((((s7.ap (.box d (some []))).ap (.tok (vk d) false)).aps (bif x then [.tok (vm d) false] else []))).bx b = (s7.ap (.box d (some []))).bx b := λ x => by cases x <;> rfl
          rw [e, AS.bx_set]
         have h7 := fin _ ρ4 σ5 h6 R (λ b hb => r2' b (hld b hb)) (λ b hb => by rw [bx6, if_neg (hld b hb)]; exact bxl7 b hb)
         obtain ⟨g0, g1, g2, g4, g5⟩ := jI (zbs s l r.sl (fB l o.dst r) (λ t => (r.toks.zip ns).lookup t)) l r.outs (((s7.ap (.box d (some []))).ap (.tok (vk d) false)).aps (bif zgh r.val then [.tok (vm d) false] else [])) hn hlr
         have h8 := h7.rebox (b := d) (cs0 := []) (by rw [g4 d hdl, bx6, if_pos rfl]) (zuQ r.fm r.val (fB l o.dst r) (λ t => (r.toks.zip ns).lookup t) cs) (by
          cases hrf : r.fm with
          | none =>
           unfold zuQ
           rcases hbox with ⟨q1, q2⟩ | ⟨g, q1, q2, q3⟩
           ·exact .inl ⟨by rw [q1]; exact zi7 _, by rw [r1', q2]⟩
           ·exact .inr ⟨g, by rw [r1', q1], .inl (q2.back R _)⟩
          | some p =>
           obtain ⟨j, N⟩ := p
           rcases hbox with ⟨q1, q2⟩ | ⟨g, q1, ⟨ccs, ty, z1, z2, z3, z4⟩, q3⟩
           ·exact .inl ⟨by rw [q1]; rfl, by rw [r1', q2]⟩
           ·exact .inr ⟨g, by rw [r1', q1], .inl ⟨ccs, ty, z1, by simpa [zuQ] using z2, λ i a b => z3 i a (by simpa [zuQ] using b), λ i a b => by
             have b' : i < cs.length := by simpa [zuQ] using b
             have := (z4 i a b').datJ (ρ' := ρ4) (σ' := σ5) (j := j) (N := N) (λ t sp h1 h2 hsp => u5 _ _ (fam7 j N hrf t sp h1 h2 hsp))
             simpa [zuQ] using this⟩⟩)
         have h9 := h8.put (left.val.mp2 R) d
         rw [hdst]
         refine ⟨M', ρ4, σ5, ?_⟩
         simp only [zd2]
         rw [hs2, hs3, hs7]
         rw [hdst] at h9
         exact h9
        ·cases hs
       ·cases hs
      ·cases hs
      ·rename_i hnew
       have hgn := left.newn hnew
       have R := ren ρ σ1 (λ _ _ => rfl) (λ _ _ h => h) (λ d h1 => absurd hnew h1)
       have h7 := fin s3 ρ σ1 hown R (λ _ _ => rfl) bxl3
       cases hs
       simp only [zd2]
       rw [hs2, hs3]
       refine ⟨M', ρ, σ1, ?_⟩
       cases hdst : o.dst with
       | none => rw [hdst] at h7; exact h7
       | some d =>
        have h9 := h7.put (left.val.mp2 R) d
        rw [hdst] at h9
        exact h9
     ·cases hs
theorem zup {Γ : Gam} (hG : GOk P Γ) (h : SimW B M ρ σ s a w) {o : Oper} {m : Bool} {fv : Operand} {args : Array Operand} {ats : Array TypeId} (ho : o.op = .call { callee := .value fv, args, argTypes := ats }) {W : List Wr} (hs : zd8 Γ s o.dst m fv args.toList = some W) (K : Act -> World -> Prop) (Q : Exit -> Act -> World -> Prop) (hK : ∀ a' w', Sim B (s.aps W) a' w' -> K a' w') : o.wp P a w K Q := by
 unfold zd8 at hs
 have hf := h.ev fv
 split at hs
 ·rename_i f first captured hfe
  rw [hfe] at hf
  split at hs
  ·rename_i bs hbs
   split at hs
   ·rename_i r0 hr
    have hcall := (hG _ _ _ _ _ hr).fmx (zpI f)
    clear hr
    obtain ⟨r, hr⟩ : ∃ r, (bif zpI f then r0 else r0.nofm) = r := ⟨_, rfl⟩
    rw [hr] at hs hcall
    clear hr
    obtain ⟨⟨fn, q1, q2, q3⟩, call⟩ := hcall
    generalize hq : a.eval fv = fvv at hf
    cases hf with
    | @fn _ _ _ fs cs _ _ l1 r1 l2 r2 =>
    obtain ⟨vs, hvs⟩ : ∃ vs, first ++ args.toList.map s.ev ++ captured = vs := ⟨_, rfl⟩
    have hall : ∀ i (h1 : i < ((fs ++ args.map a.eval) ++ cs).size) (h2 : i < vs.length), Rd M ρ σ ((fs ++ args.map a.eval) ++ cs)[i] vs[i] := λ i h1 h2 => by
     subst hvs
     simp at h1 h2
     rw [Array.getElem_append, List.getElem_append]
     by_cases c1 : i < (fs ++ args.map a.eval).size
     ·have c1' : i < (first ++ args.toList.map s.ev).length := by simp at c1 |-; omega
      rw [dif_pos c1, dif_pos c1', Array.getElem_append, List.getElem_append]
      by_cases c2 : i < fs.size
      ·rw [dif_pos c2, dif_pos (by omega)]; exact r1 _ _ _
      ·rw [dif_neg c2, dif_neg (by omega)]
       simp only [Array.getElem_map, List.getElem_map, Array.getElem_toList, l1]
       exact h.ev _
     ·have c1' : ¬ i < (first ++ args.toList.map s.ev).length := by simp at c1 |-; omega
      rw [dif_neg c1, dif_neg c1']
      have e : i - (fs ++ args.map a.eval).size = i - (first ++ args.toList.map s.ev).length := by simp; omega
      simp only [e]
      exact r2 _ _ _
    have hvl : ((fs ++ args.map a.eval) ++ cs).size = vs.length := by subst hvs; simp; omega
    rw [hvs] at hbs hs call
    obtain ⟨σ0, C, -, fin⟩ := zcx (Z := λ M w cargs gs σ => Calls P f cargs w λ e w' => ∃ c M' σ' gn, e = .returned c /\ Left M w gs σ r c M' w' σ' gn) h hvl hall rfl hbs hs call
    unfold Oper.wp
    have ex : (execOp a.eval o).run P w = .ok (.enter f ((fs ++ args.map a.eval) ++ cs)) w := by
     unfold execOp
     simp only [ho, resolve, hq, Deferred.ofValue, Sem.run_bind, Sem.run_pure, Result.andThen_ok, invoke, callFunc]
     have q2' : ¬ (fn.name = "runtime.NumGoroutine") := λ e => by rw [e] at q2; simp at q2
     have q3' : ¬ (fn.body = none) := λ e => by rw [e] at q3; simp at q3
     simp [q1, q2', q3']
    rw [ex, Oper.upon_enter]
    refine C.mono λ e w' ⟨c, M', σ', gn, he, left⟩ => ?_
    subst he
    exact hK _ _ (fin c M' w' σ' gn left)
   ·cases hs
  ·cases hs
 ·cases hs
theorem JZ (h : SimW B M ρ σ s a w) {o : Oper} {W : List Wr} {v : Option AV} (hs : zku o.dst v = some W) (hy : ∀ x, v = some x -> Ze P M ρ σ a w o x) (K : Act -> World -> Prop) (Q : Exit -> Act -> World -> Prop) (hK : ∀ a' w', Sim B (s.aps W) a' w' -> K a' w') : o.wp P a w K Q := by
 cases v with
 | none => cases hs
 | some x =>
  cases hs
  obtain ⟨c, h1, h2⟩ := hy x rfl
  exact Zc h1 (hK _ _ ⟨M, ρ, σ, h.out h2 o.dst⟩)
theorem zcF (h : SimW B M ρ σ s a w) {o : Oper} {x : AV} (hx : (zab o s).map nrm = some x) : Ze P M ρ σ a w o x := by
 obtain ⟨v, h1, h2⟩ := Option.map_eq_some_iff.1 hx
 subst h2
 exact ⟨v, znw h h1, Rd.nrm v⟩
theorem zqv (hT : TabOk P T) {Γ : Gam} (hG : GOk P Γ) (hS : Sim B s a w) {o : Oper} {W : List Wr} (hs : Zd T Γ o s = some W) (K : Act -> World -> Prop) (Q : Exit -> Act -> World -> Prop) (hK : ∀ a' w', Sim B (s.aps W) a' w' -> K a' w') : o.wp P a w K Q := by
 obtain ⟨M, ρ, σ, h⟩ := hS
 unfold Zd at hs
 split at hs
 ·exact JZ h hs (λ x hx => zvu hT h hx) K Q hK
 ·split at hs
  ·rename_i t d ho hd; exact zpg hT h ho hd hs K Q hK
  ·rename_i t x d ho hd; exact zyW h ho hd hs K Q hK
  ·rename_i t x y ho hd; exact zqw hT h ho hd hs K Q hK
  ·rename_i t parts ho; exact JZ h hs (λ x hx => zpo hT h ho hx) K Q hK
  ·rename_i t len parts d ho hd; exact zeS hT h ho hd hs K Q hK
  ·rename_i c ho
   unfold Zp at hs
   obtain ⟨callee, args, ats⟩ := c
   split at hs
   ·rename_i f hc; dsimp only at hc hs; subst hc; exact zup hG h ho hs K Q hK
   ·rename_i hc
    dsimp only at hc hs
    subst hc
    split at hs
    ·rename_i x y t t' d e1 e2 hd
     have ea : args = #[x, y] := by rw [<- Array.toList_inj]; exact e1
     have et : ats = #[t, t'] := by rw [<- Array.toList_inj]; exact e2
     subst ea et
     split at hs
     ·rename_i ht; subst ht; exact zm7 hT h ho hd hs K Q hK
     ·cases hs
    ·cases hs
   ·rename_i hc
    dsimp only at hc hs
    subst hc
    split at hs
    ·rename_i x y t t' e1 e2
     have ea : args = #[x, y] := by rw [<- Array.toList_inj]; exact e1
     have et : ats = #[t, t'] := by rw [<- Array.toList_inj]; exact e2
     subst ea et
     split at hs
     ·rename_i ht; subst ht; exact zux hT h ho hs K Q hK
     ·cases hs
    ·cases hs
   ·rename_i hc
    dsimp only at hc hs
    subst hc
    split at hs
    ·rename_i x t e1 e2 hd
     have ea : args = #[x] := by rw [<- Array.toList_inj]; exact e1
     have et : ats = #[t] := by rw [<- Array.toList_inj]; exact e2
     subst ea et
     exact zpx hT h ho hd hs K Q hK
    ·cases hs
   ·exact JZ h hs (λ x hx => zcF h hx) K Q hK
   ·cases hs
  ·rename_i t l c d ho hd; exact zuP hT h ho hd hs K Q hK
  ·rename_i t d ho hd; exact zpW hT h ho hd hs K Q hK
  ·rename_i t x ix ok ho; exact JZ h hs (λ y hy => zhA hT h ho hy) K Q hK
  ·rename_i t x ix y ho hd; exact zzQ hT h ho hd hs K Q hK
  ·rename_i op t x y t2 ho; exact JZ h hs (λ x hx => zj3 hT h ho hx) K Q hK
  ·exact JZ h hs (λ x hx => zcF h hx) K Q hK
  ·rename_i src dst x ho
   unfold zbf at hs
   split at hs
   ·rename_i W' hv
    cases hs
    exact JZ h hv (λ y hy => zbn hT h ho hy) K Q hK
   ·split at hs
    ·rename_i d hd
     exact zpr hT h ho hd hs K Q hK
    ·cases hs
  ·cases hs
theorem zvz (hT : TabOk P T) (h : SimW B M ρ σ s a w) {o : Oper} {d : Nat} {t : TypeId} {x : Operand} (ho : o.op = .load t x) (hd : o.dst = some d) {W : List Wr} (hs : zbp T s d t x = some W) (K : Act -> World -> Prop) (Q : Exit -> Act -> World -> Prop) (hK : ∀ a' w', Sim B (s.aps W) a' w' -> K a' w') : o.wp P a w K Q := by
 have hx := h.ev x
 unfold zbp at hs
 split at hs
 ·rename_i b off e hb hu
  rw [hb] at hx
  split at hs
  ·rename_i cs b' j N i hcs hfm hi htd
   cases hbb : (Nat.beq b' b && JB s.tok) with
   | false => rw [hbb] at hs; cases hs
   | true =>
   rw [hbb] at hs
   simp only [cond_true] at hs
   obtain ⟨-, hno⟩ := Bool.and_eq_true_iff.1 hbb
   split at hs
   ·rename_i c hc
    split at hs
    ·rename_i n xs k
     split at hs
     ·rename_i hcond
      obtain ⟨rfl, rfl, hj, hN⟩ := hcond
      cases hs
      obtain ⟨hcs, hnm⟩ := AS.cx_some hcs
      generalize hq : a.eval x = xv at hx
      cases hx with
      | @ptr _ _ _ _ g hg =>
       have hld : ld T t cs off = some (.list i.1 xs (some (TOB + off))) := by
        unfold ld
        rw [hu]
        simp only [zw, Bool.false_eq_true, if_false]
        rw [hc]
        rfl
       obtain ⟨c, h1, h2⟩ := zpS hT (h.lies hcs hnm hg) hld
       rw [Nat.zero_add] at h1
       refine Zc (v := c) (w' := w) ?_ (hK _ _ ?_)
       ·unfold execOp
        simp only [ho, hq, Instr.loadAt, Instr.sureAddr, Sem.run_bind, Sem.run_pure, Result.andThen_ok, h1]
       ·rw [hd]
        have h3 := h.fmTake (tD d 0) htd b' off j N hj hN hfm hno
        have hsn := h.snone htd
        have up : ∀ q sp, σ q = some sp -> (λ q => if q = tD d 0 then σ (TOB + off) else σ q) q = some sp := λ q sp hqs => by
         by_cases e : q = tD d 0
         ·rw [e, hsn] at hqs; cases hqs
         ·simp only [if_neg e]; exact hqs
        have hrd : Rd M ρ (λ q => if q = tD d 0 then σ (TOB + off) else σ q) c (.list i.1 xs (some (tD d 0))) := by
         cases h2 with
         | nil ha => exact .nil (.inl (ha.resolve_right (by simp)))
         | list cf hl hcap hn hm ho' hr ht =>
          refine .list cf hl hcap hn hm ho' hr (λ q hq' => ?_)
          cases hq'
          rcases ht _ rfl with e | ⟨sp, e1, e2⟩
          ·exact .inl e
          ·exact .inr ⟨sp, by simp only [if_pos]; exact e1, e2⟩
        have h4 : SimW B M ρ (λ q => if q = tD d 0 then σ (TOB + off) else σ q) ((s.ap (.fm (some (b, off + 1, N)))).ap (.tok (tD d 0) true)) a w := h3.tkweak rfl (λ _ => rfl) rfl (λ _ q => q) (λ _ q => q)
        exact ⟨M, ρ, _, h4.put hrd d⟩
     ·cases hs
    ·cases hs
   ·cases hs
  ·cases hs
 ·cases hs
theorem zfu (hT : TabOk P T) {Γ : Gam} (hG : GOk P Γ) (hS : Sim B s a w) {o : Oper} {W : List Wr} (hs : Jr T Γ o s = some W) (K : Act -> World -> Prop) (Q : Exit -> Act -> World -> Prop) (hK : ∀ a' w', Sim B (s.aps W) a' w' -> K a' w') : o.wp P a w K Q := by
 unfold Jr at hs
 split at hs
 ·rename_i p hp
  obtain ⟨M, ρ, σ, h⟩ := hS
  unfold zqA at hp
  split at hp
  ·rename_i t x d ho hd
   split at hp
   ·cases hp; exact zvz hT h ho hd hs K Q hK
   ·cases hp
  ·cases hp
 ·split at hs
  ·rename_i p hp
   obtain ⟨M, ρ, σ, h⟩ := hS
   unfold zhg at hp
   split at hp
   ·rename_i c d ho hd
    obtain ⟨callee, args, ats⟩ := c
    split at hp
    ·rename_i x y t t' hc e1 e2
     dsimp only at hc e1 e2
     subst hc
     have ea : args = #[x, y] := by rw [<- Array.toList_inj]; exact e1
     have et : ats = #[t, t'] := by rw [<- Array.toList_inj]; exact e2
     subst ea et
     split at hp
     ·split at hp
      ·split at hp
       ·rename_i ht; subst ht; cases hp; exact zj0 hT h ho hd hs K Q hK
       ·cases hp
      ·cases hp
     ·cases hp
    ·cases hp
   ·cases hp
  ·exact zqv hT hG hS hs K Q hK
end
end
section
open Go.RowKit
inductive Rs where
 | env (t : Nat)
 | box (b : Nat)
 | tok (t : Nat)
 deriving DecidableEq
def cl (t : Nat) : Nat := bif Nat.ble TOB t then TOB / 64 else t / 64
theorem zur {t t' : Nat} (h : t / 64 = t' / 64) : cl t = cl t' := by
 have k : ∀ x : Nat, Nat.ble TOB x = Nat.ble (TOB / 64) (x / 64) := λ x => by
  have e : (TOB <= x) ↔ (TOB / 64 <= x / 64) := by unfold TOB; omega
  cases q : Nat.ble (TOB / 64) (x / 64) with
  | true => exact Nat.ble_eq_true_of_le (e.2 (Nat.le_of_ble_eq_true q))
  | false =>
   cases q2 : Nat.ble TOB x with
   | false => rfl
   | true => rw [Nat.ble_eq_true_of_le (e.1 (Nat.le_of_ble_eq_true q2))] at q; cases q
 unfold cl
 rw [k t, k t', h]
def Wr.at : Wr -> Rs
 | .env t _ => .env t
 | .box b _ => .box b
 | .tok t _ => .tok (cl t)
 | .fm _ => .tok (TOB / 64)
def Rs.eqb : Rs -> Rs -> Bool
 | .env a, .env b | .box a, .box b | .tok a, .tok b => a == b
 | _, _ => false
theorem Rs.eqb_iff (x y : Rs) : x.eqb y = true ↔ x = y := by cases x <;> cases y <;> simp [Rs.eqb]
def zAl : Operand -> List Rs
 | .tmp t => [.env t]
 | _ => []
def zgw : AV -> List Rs
 | .ptr b _ => [.box b, .tok (cl (vk b))]
 | _ => []
def zgJ : AV -> List Rs
 | .vs b _ _ _ => [.box b, .tok (cl (vk b))]
 | _ => []
def jD (v : AV) : List Rs := (tk0 v).map λ t => .tok (cl t)
def zap (d : Option Nat) : List Rs := match d with
 | some d => [.box d, .tok (cl (tD d 0)), .tok (cl (vk d))]
 | none => []
def zeQ (s : AS) (b : Nat) : List Rs := .box b :: .tok (cl (vk b)) :: (match s.tk (vm b) with | some _ => [] | none => (match s.bx b with | some cs => cs.flatMap jD | none => []))
def zoy (dst : Option Nat) (l : List Nat) : List Rs := match dst, l with
 | none, b :: _ => [.tok (cl (tC b 4095 0))]
 | _, _ => []
def zpU : AV -> List Rs
 | .mref b => [.box b]
 | _ => []
def zCH (d : Option Nat) : List Rs := match d with
 | some d => [.box (mpN d), .tok (cl (vk (mpN d)))]
 | none => []
def zuD (s : AS) (d : Option Nat) : AV -> List Rs
 | .ptr b _ => (match s.fm with
  | some (b', _, _) => bif Nat.beq b' b then (match d with | some d => [.tok (TOB / 64), .tok (cl (tD d 0))] | none => []) else []
  | none => [])
 | _ => []
def ziR (s : AS) : AV -> List Rs
 | .vs e _ _ _ => .box e :: .tok (TOB / 64) :: (match s.bx e with | some cs => cs.flatMap jD | none => [])
 | _ => []
def fmRs : Fn -> List Rs
 | .func g => bif zpI g then [.tok (TOB / 64)] else []
 | _ => []
def Z7 (s : AS) (o : Oper) : List Rs :=
 match o.op with
 | .load _ x => zgw (s.ev x) ++ zuD s o.dst (s.ev x)
 | .store _ x _ => zgw (s.ev x)
 | .alloc _ | .box .. | .buildSlice .. | .makeSlice .. | .convert .. => zap o.dst
 | .makeMap .. => zCH o.dst
 | .lookup _ x _ _ => zpU (s.ev x)
 | .mapUpdate _ x _ _ => zpU (s.ev x)
 | .call c =>
  (match c.callee with
  | .value f => (match s.ev f with
   | .fn F first captured => ((JA s (first ++ c.args.toList.map s.ev ++ captured)).flatMap (zeQ s) ++ ((first ++ c.args.toList.map s.ev ++ captured).flatMap jD ++ (zoy o.dst (JA s (first ++ c.args.toList.map s.ev ++ captured)) ++ zap o.dst))) ++ fmRs F
   | _ => [])
  | .builtin .copy => (match c.args.toList with | [x, y] => zgJ (s.ev x) ++ zgJ (s.ev y) | _ => [])
  | .builtin .clear => (match c.args.toList with | [x] => zgJ (s.ev x) | _ => [])
  | .builtin .append => (match c.args.toList with | x :: r => (jD (s.ev x) ++ (zgJ (s.ev x) ++ zap o.dst)) ++ (match r with | y :: _ => ziR s (s.ev y) | [] => []) | [] => [])
  | _ => [])
 | _ => []
def zqd (s : AS) (o : Oper) : List Rs := o.op.operands.toList.flatMap zAl ++ Z7 s o
def zN (s s' : AS) : Rs -> Prop
 | .env t => s.at t = s'.at t
 | .box b => s.bx b = s'.bx b
 | .tok F => (∀ t, cl t = F -> s.tk t = s'.tk t) /\ (F = TOB / 64 -> s.fm = s'.fm /\ JB s.tok = JB s'.tok)
section
variable {P : Program} {T : Tab} {Γ : Gam} {B : Base} {s s' : AS} {a : Act} {w : World}
theorem ze1 {x : Operand} (h : ∀ r ∈ zAl x, zN s s' r) : s'.ev x = s.ev x := by
 cases x with
 | tmp t => exact (h (.env t) List.mem_cons_self).symm
 | _ => rfl
theorem zDv (b : Nat) : cl (vm b) = cl (vk b) := zur (by unfold vm vk; omega)
theorem zAI (d i : Nat) (h : i < 64) : cl (tD d i) = cl (tD d 0) := zur (by unfold tD; omega)
theorem zDu (b m : Nat) (h : m < 64) : cl (tC b 4095 m) = cl (tC b 4095 0) := zur (by unfold tC; omega)
theorem zgD {t' : Nat} {f : Nat -> Option Nat} {v : AV} (h : ∀ r ∈ jD v, zN s s' r) : tkV s' t' f v = tkV s t' f v := by
 unfold tkV
 split
 ·rename_i n xs t
  have : s.tk t = s'.tk t := (h (.tok (cl t)) (by simp [jD, tk0])).1 t rfl
  rw [this]
 ·rfl
theorem zgC {t' : Nat} {v : AV} (h : ∀ r ∈ jD v, zN s s' r) : tkT s' t' v = tkT s t' v := by
 unfold tkT
 split
 ·rename_i n xs t
  have : s.tk t = s'.tk t := (h (.tok (cl t)) (by simp [jD, tk0])).1 t rfl
  rw [this]
 ·rfl
theorem zco {f : Nat -> Option Nat} : ∀ (vs : List AV) (i : Nat), (∀ r ∈ vs.flatMap jD, zN s s' r) -> jV s' f i vs = jV s f i vs
 | [], _, _ => rfl
 | v :: r, i, h => by
  simp only [jV]
  rw [zgD λ x hx => h x (List.mem_flatMap.2 ⟨v, List.mem_cons_self, hx⟩), zco r (i + 1) λ x hx => h x (by obtain ⟨y, h1, h2⟩ := List.mem_flatMap.1 hx; exact List.mem_flatMap.2 ⟨y, List.mem_cons_of_mem _ h1, h2⟩)]
theorem zcn : ∀ (vs : List AV) (i : Nat), (∀ r ∈ vs.flatMap jD, zN s s' r) -> zaN s' i vs = zaN s i vs
 | [], _, _ => rfl
 | v :: r, i, h => by
  simp only [zaN]
  rw [zgC λ x hx => h x (List.mem_flatMap.2 ⟨v, List.mem_cons_self, hx⟩), zcn r (i + 1) λ x hx => h x (by obtain ⟨y, h1, h2⟩ := List.mem_flatMap.1 hx; exact List.mem_flatMap.2 ⟨y, List.mem_cons_of_mem _ h1, h2⟩)]
theorem zbc {f : Nat -> Option Nat} {k : Nat} : ∀ (vs : List AV) (i : Nat), (∀ r ∈ vs.flatMap jD, zN s s' r) -> jS s' f k i vs = jS s f k i vs
 | [], _, _ => rfl
 | v :: r, i, h => by
  simp only [jS]
  rw [zgD λ x hx => h x (List.mem_flatMap.2 ⟨v, List.mem_cons_self, hx⟩), zbc r (i + 1) λ x hx => h x (by obtain ⟨y, h1, h2⟩ := List.mem_flatMap.1 hx; exact List.mem_flatMap.2 ⟨y, List.mem_cons_of_mem _ h1, h2⟩)]
theorem zbb {k : Nat} : ∀ (vs : List AV) (i : Nat), (∀ r ∈ vs.flatMap jD, zN s s' r) -> zba s' k i vs = zba s k i vs
 | [], _, _ => rfl
 | v :: r, i, h => by
  simp only [zba]
  rw [zgC λ x hx => h x (List.mem_flatMap.2 ⟨v, List.mem_cons_self, hx⟩), zbb r (i + 1) λ x hx => h x (by obtain ⟨y, h1, h2⟩ := List.mem_flatMap.1 hx; exact List.mem_flatMap.2 ⟨y, List.mem_cons_of_mem _ h1, h2⟩)]
theorem ju {b : Nat} (h : ∀ r ∈ zeQ s b, zN s s' r) : s.bx b = s'.bx b /\ s.tk (vm b) = s'.tk (vm b) /\ s.tk (vk b) = s'.tk (vk b) /\ ∀ cs, s.tk (vm b) = none -> s.bx b = some cs -> ∀ r ∈ cs.flatMap jD, zN s s' r := by
 refine ⟨h (.box b) List.mem_cons_self, (h (.tok (cl (vk b))) (List.mem_cons_of_mem _ List.mem_cons_self)).1 (vm b) (zDv b), (h (.tok (cl (vk b))) (List.mem_cons_of_mem _ List.mem_cons_self)).1 (vk b) rfl, λ cs h1 h2 r hr => h r ?_⟩
 refine List.mem_cons_of_mem _ (List.mem_cons_of_mem _ ?_)
 rw [h1, h2]
 exact hr
theorem za8 {f : Nat -> Option Nat} : ∀ (l : List Nat) (k : Nat), (∀ r ∈ l.flatMap (zeQ s), zN s s' r) -> jl s' f k l = jl s f k l
 | [], _, _ => rfl
 | b :: l, k, h => by
  obtain ⟨h1, h2, -, h3⟩ := ju (s := s) (s' := s') (b := b) λ x hx => h x (List.mem_flatMap.2 ⟨b, List.mem_cons_self, hx⟩)
  unfold jl
  have hcx : s'.cx b = s.cx b := by simp only [AS.cx, h1]
  rw [hcx, <- h2, za8 l (k + 1) λ x hx => h x (by obtain ⟨y, q1, q2⟩ := List.mem_flatMap.1 hx; exact List.mem_flatMap.2 ⟨y, List.mem_cons_of_mem _ q1, q2⟩)]
  cases hb0 : s.cx b with
  | none => rfl
  | some cs =>
   have hb := (AS.cx_some hb0).1
   cases hv : s.tk (vm b) with
   | some _ => rfl
   | none => cases jl s f (k + 1) l <;> simp only [zbc cs 0 (h3 cs hv hb)]
theorem za7 : ∀ (l : List Nat) (k : Nat), (∀ r ∈ l.flatMap (zeQ s), zN s s' r) -> jv s' k l = jv s k l
 | [], _, _ => rfl
 | b :: l, k, h => by
  obtain ⟨h1, h2, -, h3⟩ := ju (s := s) (s' := s') (b := b) λ x hx => h x (List.mem_flatMap.2 ⟨b, List.mem_cons_self, hx⟩)
  unfold jv
  rw [<- h1, <- h2, za7 l (k + 1) λ x hx => h x (by obtain ⟨y, q1, q2⟩ := List.mem_flatMap.1 hx; exact List.mem_flatMap.2 ⟨y, List.mem_cons_of_mem _ q1, q2⟩)]
  cases hb : s.bx b with
  | none => rfl
  | some cs =>
   cases hv : s.tk (vm b) with
   | some _ => rfl
   | none => simp only [zbb cs 0 (h3 cs hv hb)]
theorem zcN : ∀ (l : List Nat), (∀ r ∈ l.flatMap (zeQ s), zN s s' r) -> zkc s' l = zkc s l
 | [], _ => rfl
 | b :: l, h => by
  obtain ⟨h1, h2, -, h3⟩ := ju (s := s) (s' := s') (b := b) λ x hx => h x (List.mem_flatMap.2 ⟨b, List.mem_cons_self, hx⟩)
  unfold zkc
  rw [<- h1, <- h2, zcN l λ x hx => h x (by obtain ⟨y, q1, q2⟩ := List.mem_flatMap.1 hx; exact List.mem_flatMap.2 ⟨y, List.mem_cons_of_mem _ q1, q2⟩)]
theorem zpV {l : List Nat} {b x : Nat} (h : x ∈ l) : x ∈ zrP l b := by
 unfold zrP
 split
 ·exact h
 ·exact List.mem_append_left _ h
theorem JP : ∀ (m l : List Nat) (x : Nat), x ∈ l -> x ∈ m.foldl zrP l
 | [], _, _, h => h
 | b :: m, l, x, h => JP m _ x (zpV h)
theorem zj4 (vs : List AV) (h : ∀ r ∈ (JA s vs).flatMap (zeQ s), zN s s' r) : JA s' vs = JA s vs := by
 unfold JA
 rw [zcN (zCY vs) λ r hr => ?_]
 obtain ⟨y, q1, q2⟩ := List.mem_flatMap.1 hr
 exact h r (List.mem_flatMap.2 ⟨y, JP _ _ _ q1, q2⟩)
theorem zcI {b : Nat} (h : zN s s' (.tok (cl (tC b 4095 0)))) : ∀ (f m : Nat), f + m <= 60 -> zgg s' b f m = zgg s b f m
 | 0, _, _ => rfl
 | f + 1, m, hm => by
  unfold zgg
  have : s.tk (tC b 4095 m) = s'.tk (tC b 4095 m) := h.1 _ (zDu b m (by omega))
  rw [<- this, zcI h f (m + 1) (by omega)]
theorem ziU {b : Nat} : ∀ (f m : Nat), zgg s b f m <= f + m
 | 0, m => by simp [zgg]
 | f + 1, m => by
  unfold zgg
  split
  ·omega
  ·have := ziU (b := b) f (m + 1); omega
theorem zji {d : Nat} : ∀ (n i t : Nat), t ∈ zAd d i n -> ∃ j, t = tD d j /\ i <= j /\ j < i + n
 | 0, i, t, h => by cases h
 | n + 1, i, t, h => by
  rcases List.mem_cons.1 h with e | e
  ·exact ⟨i, e, Nat.le_refl _, by omega⟩
  ·obtain ⟨j, h1, h2, h3⟩ := zji n (i + 1) t e
   exact ⟨j, h1, by omega, by omega⟩
theorem zjh {b : Nat} : ∀ (n i t : Nat), t ∈ zAc b i n -> ∃ j, t = tC b 4095 j /\ i <= j /\ j < i + n
 | 0, i, t, h => by cases h
 | n + 1, i, t, h => by
  rcases List.mem_cons.1 h with e | e
  ·exact ⟨i, e, Nat.le_refl _, by omega⟩
  ·obtain ⟨j, h1, h2, h3⟩ := zjh n (i + 1) t e
   exact ⟨j, h1, by omega, by omega⟩
theorem zc5 {d : Nat} : ∀ (n i : Nat), (zAd d i n).length = n
 | 0, _ => rfl
 | n + 1, i => by simp [zAd, zc5 n]
theorem zc4 {b : Nat} : ∀ (n i : Nat), (zAc b i n).length = n
 | 0, _ => rfl
 | n + 1, i => by simp [zAc, zc4 n]
theorem zhI {l : List Nat} {dst : Option Nat} {tab : List (Nat × Nat)} {r : Ret} (hb : ∀ x ∈ l.flatMap (zeQ s), zN s s' x) (h : ∀ x ∈ zoy dst l ++ zap dst, zN s s' x) (hF : r.fm ≠ none -> zN s s' (.tok (TOB / 64))) (hni : s.nin = s'.nin) : zbu s' l dst tab r = zbu s l dst tab r := by
 unfold zbu
 obtain ⟨us, hus⟩ : ∃ us, zbw tab r.use = us := ⟨_, rfl⟩
 rw [hus]
 ·have e1 : zuR s' l dst r.toks.length = zuR s l dst r.toks.length := by
   unfold zuR
   cases dst with
   | some d => rfl
   | none =>
    cases l with
    | nil => rfl
    | cons b l => simp only [zcI (h (.tok (cl (tC b 4095 0))) (List.mem_append_left _ List.mem_cons_self)) 30 0 (by omega)]
  simp only [e1]
  obtain ⟨ns, hns⟩ : ∃ ns, zuR s l dst r.toks.length = ns := ⟨_, rfl⟩
  rw [hns]
  unfold zoa
  have e2 : (decide (ns.length <= 30) && (ns.all (λ t => (s'.tk t).isNone) && (ns.length == r.toks.length && r.outs.length == l.length))) = (decide (ns.length <= 30) && (ns.all (λ t => (s.tk t).isNone) && (ns.length == r.toks.length && r.outs.length == l.length))) := by
   by_cases hlen : ns.length <= 30
   ·have : ∀ t ∈ ns, s'.tk t = s.tk t := λ t ht => by
     rw [<- hns] at ht hlen
     unfold zuR at ht hlen
     cases dst with
     | some d =>
      simp only at ht hlen
      rw [zc5] at hlen
      obtain ⟨j, rfl, -, h2⟩ := zji _ _ _ ht
      exact ((h (.tok (cl (tD d 0))) (List.mem_append_right _ (by simp [zap]))).1 _ (zAI d j (by omega))).symm
     | none =>
      cases l with
      | nil => simp only at ht; cases ht
      | cons b l =>
       simp only at ht hlen
       rw [zc4] at hlen
       obtain ⟨j, rfl, -, h2⟩ := zjh _ _ _ ht
       have := ziU (s := s) (b := b) 30 0
       exact ((h (.tok (cl (tC b 4095 0))) (List.mem_append_left _ List.mem_cons_self)).1 _ (zDu b j (by omega))).symm
    have e3 : ns.all (λ t => (s'.tk t).isNone) = ns.all (λ t => (s.tk t).isNone) := by
     rw [Bool.eq_iff_iff, List.all_eq_true, List.all_eq_true]
     exact ⟨λ q t ht => by rw [<- this t ht]; exact q t ht, λ q t ht => by rw [this t ht]; exact q t ht⟩
    rw [e3]
   ·simp [hlen]
  have e0 : zAH s' l r.sl = zAH s l r.sl := by
   unfold zAH
   congr 1
   funext k
   cases hk : l[k]? with
   | none => rfl
   | some b =>
    obtain ⟨hlt, e⟩ := List.getElem?_eq_some_iff.1 hk
    obtain ⟨-, h2, -⟩ := ju (s := s) (s' := s') (b := b) λ x hx' => hb x (List.mem_flatMap.2 ⟨b, e ▸ List.getElem_mem _, hx'⟩)
    simp only [h2]
  rw [e0, e2]
  have e4 : ZK (zbs s' l r.sl (fB l dst r) (λ t => (r.toks.zip ns).lookup t)) l r.outs = ZK (zbs s l r.sl (fB l dst r) (λ t => (r.toks.zip ns).lookup t)) l r.outs := by
   have key : ∀ (f g : Nat -> Option Nat) (l0 l : List Nat) (os : List (List AV)), (∀ x ∈ l.flatMap (zeQ s), zN s s' x) -> ZK (zbs s' l0 r.sl f g) l os = ZK (zbs s l0 r.sl f g) l os := by
    intro f g l0 l
    induction l with
    | nil => intro os _; rfl
    | cons b l ih =>
     intro os hx
     cases os with
     | nil => rfl
     | cons cs os =>
      obtain ⟨-, h2, -⟩ := ju (s := s) (s' := s') (b := b) λ x hx' => hx x (List.mem_flatMap.2 ⟨b, List.mem_cons_self, hx'⟩)
      simp only [ZK, zbs, <- h2]
      congr 1
      exact ih os λ x hx' => hx x (by obtain ⟨y, q1, q2⟩ := List.mem_flatMap.1 hx'; exact List.mem_flatMap.2 ⟨y, List.mem_cons_of_mem _ q1, q2⟩)
   exact key _ _ l l r.outs hb
  simp only [e4]
  cases hnew : r.new with
  | none => cases dst <;> rfl
  | some cs =>
   cases dst with
   | none => rfl
   | some d =>
    have q1 : s.bx d = s'.bx d := h (.box d) (List.mem_append_right _ (by simp [zap]))
    have q2 : s.tk (vk d) = s'.tk (vk d) := (h (.tok (cl (vk d))) (List.mem_append_right _ (by simp [zap]))).1 _ rfl
    have q3 : zvM s' d ns r.toks r.fm = zvM s d ns r.toks r.fm := by
     cases hrf : r.fm with
     | none => rfl
     | some p =>
      obtain ⟨q4, q5⟩ := (hF (by rw [hrf]; simp)).2 rfl
      simp only [zvM, q4, q5]
    simp only [<- q1, <- q2, hni, q3]
theorem JK {d : Nat} {i : Nat × Nat} {x : AV} {l2 : Nat} {as2 : List AV} (hx : ∀ r ∈ zgJ x ++ zap (some d), zN s s' r) (hni : s.nin = s'.nin) : zX s' d i x l2 as2 = zX s d i x l2 as2 := by
 have q1 : s.bx d = s'.bx d := hx (.box d) (List.mem_append_right _ (by simp [zap]))
 have q2 : s.tk (vk d) = s'.tk (vk d) := (hx (.tok (cl (vk d))) (List.mem_append_right _ (by simp [zap]))).1 _ rfl
 unfold zX
 rw [<- q1, <- q2, <- hni]
 cases x with
 | vs b off len n =>
  have q3 : s.bx b = s'.bx b := hx (.box b) (List.mem_append_left _ (by simp [zgJ]))
  have q4 : s.tk (vk b) = s'.tk (vk b) := (hx (.tok (cl (vk b))) (List.mem_append_left _ (by simp [zgJ]))).1 _ rfl
  dsimp only
  rw [<- q3, <- q4]
 | _ => rfl
theorem zeJ {d : Nat} {i : Nat × Nat} {x : AV} {ys : List (List AV)} (hx : ∀ r ∈ zgJ x ++ zap (some d), zN s s' r) (hni : s.nin = s'.nin) : jG s' d i x ys = jG s d i x ys := JK hx hni
theorem zde {d : Nat} {t : TypeId} {x y : Operand} (hx : s'.ev x = s.ev x) (hy : s'.ev y = s.ev y) (hk : ∀ r ∈ jD (s.ev x) ++ (zgJ (s.ev x) ++ zap (some d)), zN s s' r) (hni : s.nin = s'.nin) : ZY T s' d t x y = ZY T s d t x y := by
 have hd : s.tk (tD d 0) = s'.tk (tD d 0) := (hk (.tok (cl (tD d 0))) (List.mem_append_right _ (List.mem_append_right _ (by simp [zap])))).1 _ (zAI d 0 (by omega))
 have hB : ∀ i ys, jG s' d i (s.ev x) ys = jG s d i (s.ev x) ys := λ i ys => zeJ (λ r hr => hk r (List.mem_append_right _ hr)) hni
 unfold ZY
 rw [hx, hy, <- hd]
 simp only [hB]
 cases hq : s.ev x with
 | list n xs tk =>
  cases tk with
  | none => rfl
  | some k =>
   have : s.tk k = s'.tk k := (hk (.tok (cl k)) (List.mem_append_left _ (by rw [hq]; simp [jD, tk0]))).1 k rfl
   simp only [this]
 | v z =>
  cases T.u t with
  | none => rfl
  | some q =>
   cases q with
   | slice e =>
    simp only
    cases T.i e with
    | none => rfl
    | some i =>
     cases T.z e with
     | none => rfl
     | some zz =>
      cases s.tk (tD d 0) with
      | some _ => rfl
      | none =>
       simp only
       split
       ·split
        ·split
         ·congr 1
          split <;> first | rfl | exact absurd ‹AV.v z = AV.list _ _ _› (by simp)
         ·rfl
        ·rfl
       ·rfl
   | _ => rfl
 | _ => rfl
theorem zhQ {o : Oper} (h : ∀ r ∈ zqd s o, zN s s' r) (hni : s.nin = s'.nin) : Zd T Γ o s' = Zd T Γ o s := by
 have hev : ∀ x ∈ o.op.operands, s'.ev x = s.ev x := λ x hx => ze1 λ r hr => h r (List.mem_append_left _ (List.mem_flatMap.2 ⟨x, by simpa using hx, hr⟩))
 have hex : ∀ r ∈ Z7 s o, zN s s' r := λ r hr => h r (List.mem_append_right _ hr)
 have hfl : ∀ (hh : ziY o.op = false), zab o s' = zab o s := λ hh => by
  unfold zab
  rw [hh]
  have e1 : o.op.operands.toList.all (λ x => (s'.ev x).flat.isSome) = o.op.operands.toList.all (λ x => (s.ev x).flat.isSome) := by
   rw [Bool.eq_iff_iff, List.all_eq_true, List.all_eq_true]
   exact ⟨λ q x hx => by rw [<- hev x (by simpa using hx)]; exact q x hx, λ q x hx => by rw [hev x (by simpa using hx)]; exact q x hx⟩
  have e2 : execOp s'.fv o = execOp s.fv o := execOp_congr o (λ cs b hc => by rw [hc] at hh; cases hh) λ x hx => by unfold AS.fv; rw [hev x hx]
  rw [e1, e2]
 obtain ⟨dst, op, type, pos, after, guard⟩ := o
 unfold Zd
 simp only at hev hex hfl |-
 cases op with
 | move x => simp [zJ, zn, hev x (by simp [Op.operands])]
 | assign x => simp [zJ, zn, hev x (by simp [Op.operands])]
 | pick c x y => simp [zJ, zn, hev c (by simp [Op.operands]), hev x (by simp [Op.operands]), hev y (by simp [Op.operands])]
 | load t x =>
  have e := hev x (by simp [Op.operands])
  simp only [zJ, if_true, zn, e]
  have hx : ∀ r ∈ zgw (s.ev x), zN s s' r := λ r hr => hex r (List.mem_append_left _ hr)
  cases hq : s.ev x with
  | ptr b off =>
   rw [hq] at hx
   have q0 : s.bx b = s'.bx b := hx (.box b) (by simp [zgw])
   have q1 : s.cx b = s'.cx b := by simp only [AS.cx, q0]
   have q2 : s.tk (vm b) = s'.tk (vm b) := (hx (.tok (cl (vk b))) (by simp [zgw])).1 _ (zDv b)
   simp only [q1, q2]
  | _ => rfl
 | nilCheck x => simp [zJ, zn, hev x (by simp [Op.operands])]
 | fieldAddr t x f => simp [zJ, zn, hev x (by simp [Op.operands])]
 | indexAddr t x ix => simp [zJ, zn, hev x (by simp [Op.operands]), hev ix (by simp [Op.operands])]
 | field t x f => simp [zJ, zn, hev x (by simp [Op.operands])]
 | index t x ix => simp [zJ, zn, hev x (by simp [Op.operands]), hev ix (by simp [Op.operands])]
 | extract x i => simp [zJ, zn, hev x (by simp [Op.operands])]
 | convert src t x =>
  have e := hev x (by simp [Op.operands])
  have e1 : zn T s' (.convert src t x) = zn T s (.convert src t x) := by simp only [zn, e]
  cases dst with
  | none => simp only [zJ, Bool.false_eq_true, if_false, zbf, e1]
  | some d =>
   have q0 : s.tk (tD d 0) = s'.tk (tD d 0) := (hex (.tok (cl (tD d 0))) (by simp [Z7, zap])).1 _ (zAI d 0 (by omega))
   simp only [zJ, Bool.false_eq_true, if_false, zbf, zcw, e1, e, q0]
 | makeFunc fn fi ca =>
  have e1 : fi.toList.map s'.ev = fi.toList.map s.ev := List.map_congr_left λ x hx => hev x (by simp [Op.operands]; left; simpa using hx)
  have e2 : ca.toList.map s'.ev = ca.toList.map s.ev := List.map_congr_left λ x hx => hev x (by simp [Op.operands]; right; simpa using hx)
  simp [zJ, zn, e1, e2]
 | slice t x lo hi mx =>
  have e1 : lo.map s'.ev = lo.map s.ev := by cases lo with
   | none => rfl
   | some y => simp [hev y (by simp [Op.operands])]
  have e2 : hi.map s'.ev = hi.map s.ev := by cases hi with
   | none => rfl
   | some y => simp [hev y (by simp [Op.operands])]
  have e3 := hev x (by simp [Op.operands])
  cases mx with
  | some m => simp [zJ, zn]
  | none => simp only [zJ, if_true, zn, e1, e2, e3]
 | binOp bo t x y t2 =>
  have e1 := hev x (by simp [Op.operands])
  have e2 := hev y (by simp [Op.operands])
  have e3 := hfl rfl
  cases bo <;> simp [zJ, zn, zoB, zhn, e1, e2, e3]
 | makeSlice t l c =>
  cases dst with
  | none => rfl
  | some d =>
   have q1 : s.bx d = s'.bx d := hex (.box d) (by simp [Z7, zap])
   have q2 : s.tk (vk d) = s'.tk (vk d) := (hex (.tok (cl (vk d))) (by simp [Z7, zap])).1 _ rfl
   have q3 : s.tk (tD d 0) = s'.tk (tD d 0) := (hex (.tok (cl (tD d 0))) (by simp [Z7, zap])).1 _ (by unfold tD; omega)
   simp [zJ, zef, q1, q2, q3, hni, hev l (by simp [Op.operands]), hev c (by simp [Op.operands])]
 | unOp uo t x => simp [zJ, hfl rfl]
 | alloc t =>
  cases dst with
  | none => rfl
  | some d =>
   have q1 : s.bx d = s'.bx d := hex (.box d) (by simp [Z7, zap])
   have q2 : s.tk (vk d) = s'.tk (vk d) := (hex (.tok (cl (vk d))) (by simp [Z7, zap])).1 _ rfl
   simp [zJ, zeG, q1, q2, hni]
 | box t x =>
  cases dst with
  | none => rfl
  | some d =>
   have q1 : s.bx d = s'.bx d := hex (.box d) (by simp [Z7, zap])
   have q2 : s.tk (vk d) = s'.tk (vk d) := (hex (.tok (cl (vk d))) (by simp [Z7, zap])).1 _ rfl
   simp [zJ, zpn, q1, q2, hni, hev x (by simp [Op.operands])]
 | store t x y =>
  cases dst with
  | some d => rfl
  | none =>
   have e := hev x (by simp [Op.operands])
   have e2 := hev y (by simp [Op.operands])
   have hx : ∀ r ∈ zgw (s.ev x), zN s s' r := hex
   simp only [zJ, Bool.false_eq_true, if_false, zaX, e, e2]
   cases hq : s.ev x with
   | ptr b off =>
    rw [hq] at hx
    have q0 : s.bx b = s'.bx b := hx (.box b) List.mem_cons_self
    have : s.cx b = s'.cx b := by simp only [AS.cx, q0]
    cases T.i t <;> simp only [this]
   | _ => rfl
 | makeMap t rs =>
  cases rs with
  | some _ => cases dst <;> rfl
  | none =>
   cases dst with
   | none => rfl
   | some d =>
    have q1 : s.bx (mpN d) = s'.bx (mpN d) := hex (.box (mpN d)) (by simp [Z7, zCH])
    have q2 : s.tk (vk (mpN d)) = s'.tk (vk (mpN d)) := (hex (.tok (cl (vk (mpN d)))) (by simp [Z7, zCH])).1 _ rfl
    simp only [zJ, Bool.false_eq_true, if_false, zAw, q1, q2, hni]
 | lookup t x ix ok =>
  have e := hev x (by simp [Op.operands])
  have e2 := hev ix (by simp [Op.operands])
  have hx : ∀ r ∈ zpU (s.ev x), zN s s' r := hex
  simp only [zJ, Bool.false_eq_true, if_false, zi4, e, e2]
  cases hq : s.ev x with
  | mref b =>
   rw [hq] at hx
   have q0 : s.bx b = s'.bx b := hx (.box b) List.mem_cons_self
   rcases T.u t with _ | q
   ·rfl
   ·cases q <;> first | rfl | simp only [q0]
  | _ => rfl
 | mapUpdate t x ix y =>
  cases dst with
  | some d => rfl
  | none =>
   have e := hev x (by simp [Op.operands])
   have e2 := hev ix (by simp [Op.operands])
   have e3 := hev y (by simp [Op.operands])
   have hx : ∀ r ∈ zpU (s.ev x), zN s s' r := hex
   simp only [zJ, Bool.false_eq_true, if_false, zqb, e, e2, e3]
   cases hq : s.ev x with
   | mref b =>
    rw [hq] at hx
    have q0 : s.bx b = s'.bx b := hx (.box b) List.mem_cons_self
    rcases T.u t with _ | q
    ·rfl
    ·cases q <;> first | rfl | simp only [q0]
   | _ => rfl
 | build t parts =>
  have e1 : (parts.toList.map λ p => (p.1, s'.ev p.2)) = parts.toList.map λ p => (p.1, s.ev p.2) := List.map_congr_left λ p hp => by
   rw [hev p.2 (by simp only [Op.operands]; simp; exact ⟨p.1, by simpa using hp⟩)]
  simp only [zJ, Bool.false_eq_true, if_false, zeR, e1]
 | buildSlice t len parts =>
  cases dst with
  | none => rfl
  | some d =>
   have e1 : (parts.toList.map λ p => (p.1, s'.ev p.2)) = parts.toList.map λ p => (p.1, s.ev p.2) := List.map_congr_left λ p hp => by
    rw [hev p.2 (by simp only [Op.operands]; simp; exact ⟨p.1, by simpa using hp⟩)]
   have q0 : s.tk (tD d 0) = s'.tk (tD d 0) := (hex (.tok (cl (tD d 0))) (by simp [Z7, zap])).1 _ (zAI d 0 (by omega))
   have q1 : s.bx d = s'.bx d := hex (.box d) (by simp [Z7, zap])
   have q2 : s.tk (vk d) = s'.tk (vk d) := (hex (.tok (cl (vk d))) (by simp [Z7, zap])).1 _ rfl
   simp only [zJ, Bool.false_eq_true, if_false, jm, e1, q0, q1, q2, hni]
 | call c =>
  obtain ⟨callee, args, ats⟩ := c
  cases callee with
  | value f =>
   have e1 : args.toList.map s'.ev = args.toList.map s.ev := List.map_congr_left λ x hx => hev x (by simp [Op.operands, Call.operands]; right; simpa using hx)
   have e2 := hev f (by simp [Op.operands, Call.operands])
   simp only [zJ, Bool.false_eq_true, if_false, Zp, zd8, e1, e2]
   cases hq : s.ev f with
   | fn g first captured =>
    cases g
    case func g0 =>
     obtain ⟨vs, hvs⟩ : ∃ vs, first ++ args.toList.map s.ev ++ captured = vs := ⟨_, rfl⟩
     simp only [hvs]
     have hx := hex
     simp only [Z7, hq, hvs] at hx
     have h1 : ∀ r ∈ (JA s vs).flatMap (zeQ s), zN s s' r := λ r hr => hx r (List.mem_append_left _ (List.mem_append_left _ hr))
     have h2 : ∀ r ∈ vs.flatMap jD, zN s s' r := λ r hr => hx r (List.mem_append_left _ (List.mem_append_right _ (List.mem_append_left _ hr)))
     have h3 : ∀ r ∈ zoy dst (JA s vs) ++ zap dst, zN s s' r := λ r hr => hx r (List.mem_append_left _ (List.mem_append_right _ (List.mem_append_right _ hr)))
     have e3 := zj4 vs h1
     have e4 : ∀ tab r, zbu s' (JA s vs) dst tab (bif zpI g0 then r else r.nofm) = zbu s (JA s vs) dst tab (bif zpI g0 then r else r.nofm) := λ tab r => zhI h1 h3 (λ hne => by
      refine hx _ (List.mem_append_right _ ?_)
      show Rs.tok (TOB / 64) ∈ (bif zpI g0 then [Rs.tok (TOB / 64)] else [])
      cases hg : zpI g0 with
      | true => exact List.mem_cons_self
      | false => rw [hg] at hne; exact absurd rfl hne) hni
     simp only [e3, e4, za8 _ 0 h1, zco vs 0 h2, zcn vs 0 h2, za7 _ 0 h1]
    all_goals rfl
   | _ => rfl
  | invoke r m => rfl
  | builtin b =>
   have e3 := hfl rfl
   cases b with
   | len =>
    simp only [zJ, if_true, zn]
    cases hq : args.toList with
    | nil => rfl
    | cons x r =>
     cases r with
     | cons y r' => rfl
     | nil =>
      have : s'.ev x = s.ev x := hev x (by simp [Op.operands, Call.operands]; rw [<- Array.mem_toList_iff, hq]; exact List.mem_cons_self)
      cases ats.toList with
      | nil => rfl
      | cons t r =>
       cases r with
       | nil => simp only [this]
       | cons _ _ => rfl
   | append =>
    simp only [zJ, Bool.false_eq_true, if_false, Zp]
    cases hq1 : args.toList with
    | nil => rfl
    | cons x r =>
     cases r with
     | nil => rfl
     | cons y r' =>
      cases r' with
      | cons z r'' => rfl
      | nil =>
       cases hq2 : ats.toList with
       | nil => rfl
       | cons t r =>
        cases r with
        | nil => rfl
        | cons t' r' =>
         cases r' with
         | cons z r'' => rfl
         | nil =>
          cases dst with
          | none => rfl
          | some d =>
           have hx : s'.ev x = s.ev x := hev x (by simp [Op.operands, Call.operands]; rw [<- Array.mem_toList_iff, hq1]; exact List.mem_cons_self)
           have hy : s'.ev y = s.ev y := hev y (by simp [Op.operands, Call.operands]; rw [<- Array.mem_toList_iff, hq1]; exact List.mem_cons_of_mem _ List.mem_cons_self)
           have hxx : ∀ r ∈ jD (s.ev x) ++ (zgJ (s.ev x) ++ zap (some d)), zN s s' r := by
            have := hex
            simp only [Z7, hq1] at this
            exact λ r hr => this r (List.mem_append_left _ hr)
           simp only [zde (T := T) (d := d) (t := t) hx hy hxx hni]
   | clear =>
    simp only [zJ, Bool.false_eq_true, if_false, Zp]
    cases hq1 : args.toList with
    | nil => rfl
    | cons x r =>
     cases r with
     | cons y r' => rfl
     | nil =>
      have hx : s'.ev x = s.ev x := hev x (by simp [Op.operands, Call.operands]; rw [<- Array.mem_toList_iff, hq1]; exact List.mem_cons_self)
      have hxx : ∀ r ∈ zgJ (s.ev x), zN s s' r := by
       have := hex
       simp only [Z7, hq1] at this
       exact this
      have e : ∀ t, Jb T s' t x = Jb T s t x := λ t => by
       unfold Jb
       rw [hx]
       cases hq : s.ev x with
       | vs b off len n =>
        have : s.bx b = s'.bx b := hxx (.box b) (by rw [hq]; exact List.mem_cons_self)
        simp only [this]
       | _ => rfl
      cases ats.toList with
      | nil => rfl
      | cons t r2 =>
       cases r2 with
       | nil => cases dst <;> first | rfl | simp only [e]
       | cons _ _ => rfl
   | copy =>
    simp only [zJ, Bool.false_eq_true, if_false, Zp]
    cases hq1 : args.toList with
    | nil => rfl
    | cons x r =>
     cases r with
     | nil => rfl
     | cons y r' =>
      cases r' with
      | cons z r'' => rfl
      | nil =>
       have hx : s'.ev x = s.ev x := hev x (by simp [Op.operands, Call.operands]; rw [<- Array.mem_toList_iff, hq1]; exact List.mem_cons_self)
       have hy : s'.ev y = s.ev y := hev y (by simp [Op.operands, Call.operands]; rw [<- Array.mem_toList_iff, hq1]; exact List.mem_cons_of_mem _ List.mem_cons_self)
       have hxx : ∀ r ∈ zgJ (s.ev x) ++ zgJ (s.ev y), zN s s' r := by
        have := hex
        simp only [Z7, hq1] at this
        exact this
       have e0 : ∀ n len, Jd s' n len (s.ev y) = Jd s n len (s.ev y) := λ n len => by
        cases hq : s.ev y with
        | vs b off len n =>
         have : s.bx b = s'.bx b := hxx (.box b) (List.mem_append_right _ (by rw [hq]; exact List.mem_cons_self))
         simp only [Jd, this]
        | _ => rfl
       have e : ∀ t, zbg T s' dst t x y = zbg T s dst t x y := λ t => by
        unfold zbg
        rw [hx, hy]
        cases hq : s.ev x with
        | vs b off len n =>
         have : s.bx b = s'.bx b := hxx (.box b) (List.mem_append_left _ (by rw [hq]; exact List.mem_cons_self))
         simp only [this, e0]
        | _ => rfl
       cases hq2 : ats.toList with
       | nil => rfl
       | cons t r =>
        cases r with
        | nil => rfl
        | cons t' r' =>
         cases r' with
         | cons z r'' => rfl
         | nil => simp only [e]
   | _ => simp only [zJ, Bool.false_eq_true, if_false, Zp, e3]
 | _ => rfl
theorem zga {d : Nat} {Y : AV} (h : ∀ r ∈ ziR s Y, zN s s' r) : zbh T s' d Y = zbh T s d Y := by
 cases Y with
 | vs e off len n =>
  have q0 : s.bx e = s'.bx e := h (.box e) List.mem_cons_self
  have q1 : s'.cx e = s.cx e := by simp only [AS.cx, q0]
  obtain ⟨-, q2⟩ := h (.tok (TOB / 64)) (List.mem_cons_of_mem _ List.mem_cons_self)
  obtain ⟨-, q3⟩ := q2 rfl
  unfold zbh
  simp only [q1, <- q3]
  cases hc : s.cx e with
  | none => rfl
  | some cs =>
   obtain ⟨hb, -⟩ := AS.cx_some hc
   cases cs with
   | nil => rfl
   | cons c r =>
    cases r with
    | cons _ _ => rfl
    | nil =>
     cases c with
     | list m xs tk =>
      cases tk with
      | none => rfl
      | some t2 =>
       have : s.tk t2 = s'.tk t2 := (h (.tok (cl t2)) (by
        refine List.mem_cons_of_mem _ (List.mem_cons_of_mem _ ?_)
        rw [hb]
        simp [jD, tk0])).1 _ rfl
       simp only [this]
     | _ => rfl
 | _ => rfl
theorem zho {X : AV} (hf : s.fm = s'.fm) (h : ∀ r ∈ zgJ X, zN s s' r) : zaR s' X = zaR s X := by
 cases X with
 | vs b off len n =>
  have q0 : s.bx b = s'.bx b := h (.box b) List.mem_cons_self
  unfold zaR
  simp only [<- hf, <- q0]
 | v z => unfold zaR; simp only [<- hf]
 | _ => rfl
theorem zeL {d : Nat} {t : TypeId} {x y : Operand} (hx : s'.ev x = s.ev x) (hy : s'.ev y = s.ev y) (hk : ∀ r ∈ jD (s.ev x) ++ (zgJ (s.ev x) ++ zap (some d)), zN s s' r) (hF : ∀ r ∈ ziR s (s.ev y), zN s s' r) {e off len n : Nat} (hvs : s.ev y = .vs e off len n) (hni : s.nin = s'.nin) : j8 T s' d t x y = j8 T s d t x y := by
 have hf : s.fm = s'.fm := ((hF (.tok (TOB / 64)) (by rw [hvs]; exact List.mem_cons_of_mem _ List.mem_cons_self)).2 rfl).1
 have e1 : zbh T s' d (s.ev y) = zbh T s d (s.ev y) := zga hF
 have e2 : zaR s' (s.ev x) = zaR s (s.ev x) := zho hf λ r hr => hk r (List.mem_append_right _ (List.mem_append_left _ hr))
 have e3 : ∀ i l2 as2, zX s' d i (s.ev x) l2 as2 = zX s d i (s.ev x) l2 as2 := λ i l2 as2 => JK (λ r hr => hk r (List.mem_append_right _ hr)) hni
 unfold j8
 rw [hx, hy]
 simp only [e1, e2, e3]
theorem zkr {o : Oper} {d : Nat} {t : TypeId} {x : Operand} (ho : o.op = .load t x) (hd : o.dst = some d) {W : List Wr} (hs : zbp T s d t x = some W) (h : ∀ r ∈ zqd s o, zN s s' r) : zbp T s' d t x = some W := by
 have hev : s'.ev x = s.ev x := ze1 λ r hr => h r (List.mem_append_left _ (List.mem_flatMap.2 ⟨x, by rw [ho]; simp [Op.operands], hr⟩))
 have hex : ∀ r ∈ Z7 s o, zN s s' r := λ r hr => h r (List.mem_append_right _ hr)
 have hex : ∀ r ∈ zgw (s.ev x) ++ zuD s (some d) (s.ev x), zN s s' r := λ r hr => hex r (by unfold Z7; rw [ho, hd]; exact hr)
 unfold zbp at hs |-
 rw [hev]
 split at hs
 ·rename_i b off e hb hu
  rw [hb] at hex
  split at hs
  ·rename_i cs b' j N i hcs hfm hi htd
   cases hbb : (Nat.beq b' b && JB s.tok) with
   | false => rw [hbb] at hs; cases hs
   | true =>
   obtain ⟨e1, -⟩ := Bool.and_eq_true_iff.1 hbb
   have hf : zuD s (some d) (.ptr b off) = [.tok (TOB / 64), .tok (cl (tD d 0))] := by
    show (match s.fm with | some (b', _, _) => bif Nat.beq b' b then _ else _ | none => _) = _
    rw [hfm]
    simp only [e1, cond_true]
   rw [hf] at hex
   have q0 : s.bx b = s'.bx b := hex (.box b) (List.mem_append_left _ (by simp [zgw]))
   have q1 : s'.cx b = s.cx b := by simp only [AS.cx, q0]
   obtain ⟨-, q2⟩ := hex (.tok (TOB / 64)) (List.mem_append_right _ List.mem_cons_self)
   obtain ⟨q3, q4⟩ := q2 rfl
   have q5 : s.tk (tD d 0) = s'.tk (tD d 0) := (hex (.tok (cl (tD d 0))) (List.mem_append_right _ (List.mem_cons_of_mem _ List.mem_cons_self))).1 _ rfl
   rw [q1, <- q3, <- q4, <- q5]
   rw [hcs, hfm, hi, htd]
   exact hs
  ·cases hs
 ·cases hs
theorem zkq {o : Oper} {W : List Wr} (hs : Jr T Γ o s = some W) (h : ∀ r ∈ zqd s o, zN s s' r) (hni : s.nin = s'.nin) : Jr T Γ o s' = some W := by
 unfold Jr at hs |-
 split at hs
 ·rename_i p hp
  have hp0 := hp
  unfold zqA at hp
  split at hp
  ·rename_i t x d ho hd
   split at hp
   ·cases hp; exact zkr ho hd hs h
   ·cases hp
  ·cases hp
 ·have hev : ∀ x ∈ o.op.operands, s'.ev x = s.ev x := λ x hx => ze1 λ r hr => h r (List.mem_append_left _ (List.mem_flatMap.2 ⟨x, by simpa using hx, hr⟩))
  have hex : ∀ r ∈ Z7 s o, zN s s' r := λ r hr => h r (List.mem_append_right _ hr)
  have hap : zhg T s' o = zhg T s o := by
   unfold zhg
   split
   ·rename_i c d ho hd
    split
    ·rename_i x y t t' hc e1 e2
     have hy : s'.ev y = s.ev y := hev y (by rw [ho]; simp [Op.operands, Call.operands]; right; rw [<- Array.mem_toList_iff, e1]; exact List.mem_cons_of_mem _ List.mem_cons_self)
     rw [hy]
    ·rfl
   ·rfl
  rw [hap]
  split at hs
  ·rename_i p hp
   unfold zhg at hp
   split at hp
   ·rename_i c d ho hd
    split at hp
    ·rename_i x y t t' hc e1 e2
     split at hp
     ·split at hp
      ·rename_i e off len n hvs
       split at hp
       ·cases hp
        have hx : s'.ev x = s.ev x := hev x (by rw [ho]; simp [Op.operands, Call.operands]; right; rw [<- Array.mem_toList_iff, e1]; exact List.mem_cons_self)
        have hy : s'.ev y = s.ev y := hev y (by rw [ho]; simp [Op.operands, Call.operands]; right; rw [<- Array.mem_toList_iff, e1]; exact List.mem_cons_of_mem _ List.mem_cons_self)
        have hex2 : ∀ r ∈ (jD (s.ev x) ++ (zgJ (s.ev x) ++ zap (some d))) ++ ziR s (s.ev y), zN s s' r := λ r hr => hex r (by
         unfold Z7
         rw [ho]
         simp only
         rw [hc]
         simp only
         rw [e1, hd]
         exact hr)
        rw [<- hs]
        exact zeL hx hy (λ r hr => hex2 r (List.mem_append_left _ hr)) (λ r hr => hex2 r (List.mem_append_right _ hr)) hvs hni
       ·cases hp
      ·cases hp
     ·cases hp
    ·cases hp
   ·cases hp
  ·rw [<- hs]
   exact zhQ h hni
end
end
section
open Go.RowKit
def zhv (ops : List Oper) (o : Oper) : Option (Nat × Bool) :=
 match o.guard with
 | none => none
 | some (j, want) => match (ops[j]?).bind (·.dst) with
  | some t => some (t, want)
  | none => none
def zkt (ops : List Oper) (s : AS) (o : Oper) : Option Bool :=
 match o.guard with
 | none => some true
 | some _ => match zhv ops o with
  | some (t, want) => (match s.at t with | .v (.bool b) => some (b == want) | .v _ => some false | _ => none)
  | none => none
def ZL (T : Tab) (Γ : Gam) (ops : List Oper) (o : Oper) (s : AS) : Option (List Wr) :=
 match zkt ops s o with
 | some true => Jr T Γ o s
 | some false => some (AS.out o.dst (.v undef))
 | none => none
def Zy (ops : List Oper) (s : AS) (o : Oper) : List Rs := (match zhv ops o with | some (t, _) => [.env t] | none => []) ++ zqd s o
abbrev Trc := List (List Wr × List Rs)
def zfz (T : Tab) (Γ : Gam) (ops : List Oper) : List Oper -> AS -> Option (Trc × AS)
 | [], s => some ([], s)
 | o :: r, s => match ZL T Γ ops o s with
  | some W => (match zfz T Γ ops r (s.aps W) with | some (tr, s') => some ((W, Zy ops s o) :: tr, s') | none => none)
  | none => none
def zzk (xs ys : List Rs) : Bool := xs.any λ x => ys.any λ y => x.eqb y
def zy8 (p q : List Wr × List Rs) : Bool := zzk (p.1.map Wr.at) q.2 || zzk (p.1.map Wr.at) (q.1.map Wr.at) || zzk p.2 (q.1.map Wr.at)
def zDp (acc : List Nat) (o : Oper) : Nat := o.after.toList.foldl (λ m e => if Region.binds .any e then (m ||| 2 ^ e.on) ||| acc.getD e.on 0 else m) 0
def zuk : List Oper -> List Nat -> List Nat
 | [], acc => acc
 | o :: r, acc => zuk r (acc ++ [zDp acc o])
def zfj (p : List Wr × List Rs) (i : Nat) : Trc -> List Nat -> Bool
 | q :: r, b :: bs => (b.testBit i || !zy8 p q) && zfj p i r bs
 | [], [] => true
 | _, _ => false
def zei : Trc -> List Nat -> Nat -> Bool
 | p :: r, b :: bs, i => zfj p i r bs && zei r bs (i + 1)
 | [], [], _ => true
 | _, _, _ => false
theorem zbF (xs ys : List Rs) : zzk xs ys = true ↔ ∃ r, r ∈ xs /\ r ∈ ys := by
 unfold zzk
 rw [List.any_eq_true]
 constructor
 ·rintro ⟨x, hx, h⟩
  obtain ⟨y, hy, e⟩ := List.any_eq_true.1 h
  rw [Rs.eqb_iff] at e
  subst e
  exact ⟨x, hx, hy⟩
 ·rintro ⟨r, h1, h2⟩
  exact ⟨r, h1, List.any_eq_true.2 ⟨r, h2, (Rs.eqb_iff r r).2 rfl⟩⟩
theorem zbk (p : List Wr × List Rs) (i : Nat) : ∀ (tr : Trc) (bs : List Nat), zfj p i tr bs = true -> tr.length = bs.length /\ ∀ k (h : k < tr.length) (h' : k < bs.length), bs[k].testBit i = true \/ zy8 p tr[k] = false
 | [], [], _ => ⟨rfl, λ k h => by cases h⟩
 | [], b :: bs, h => by cases h
 | q :: r, [], h => by cases h
 | q :: r, b :: bs, h => by
  simp only [zfj, Bool.and_eq_true, Bool.or_eq_true, Bool.not_eq_true'] at h
  obtain ⟨h1, h2⟩ := zbk p i r bs h.2
  refine ⟨by simp [h1], λ k hk hk' => ?_⟩
  cases k with
  | zero => exact h.1
  | succ k => exact h2 k (by simpa using hk) (by simpa using hk')
theorem zcY : ∀ (tr : Trc) (bs : List Nat) (i : Nat), zei tr bs i = true -> tr.length = bs.length /\ ∀ j k (hj : j < tr.length) (hk : k < tr.length) (hk' : k < bs.length), j < k -> bs[k].testBit (i + j) = true \/ zy8 tr[j] tr[k] = false
 | [], [], _, _ => ⟨rfl, λ j k h => by cases h⟩
 | [], b :: bs, _, h => by cases h
 | q :: r, [], _, h => by cases h
 | p :: r, b :: bs, i, h => by
  simp only [zei, Bool.and_eq_true] at h
  obtain ⟨h1, h2⟩ := zbk p i r bs h.1
  obtain ⟨h3, h4⟩ := zcY r bs (i + 1) h.2
  refine ⟨by simp [h1], λ j k hj hk hk' hjk => ?_⟩
  cases k with
  | zero => omega
  | succ k =>
   cases j with
   | zero => exact h2 k (by simpa using hk) (by simpa using hk')
   | succ j =>
    have := h4 j k (by simpa using hj) (by simpa using hk) (by simpa using hk') (by omega)
    rw [show i + 1 + j = i + (j + 1) by omega] at this
    exact this
def zst (ops : List Oper) (acc : List Nat) : Prop := ∀ (L : Nat -> Bool), zfD ops.toArray L -> ∀ i (h : i < acc.length), ∀ o, ops[i]? = some o -> Came o L -> ∀ j, (acc[i]).testBit j = true -> L j = true
theorem zfZ {ops : List Oper} {acc : List Nat} (hlen : acc.length <= ops.length) (hacc : zst ops acc) {L : Nat -> Bool} (hc : zfD ops.toArray L) : ∀ (es : List Edge) (m : Nat), (∀ e ∈ es, Region.binds .any e = true -> L e.on = true) -> (∀ j, m.testBit j = true -> L j = true) ->
  ∀ j, (es.foldl (λ m e => if Region.binds .any e then (m ||| 2 ^ e.on) ||| acc.getD e.on 0 else m) m).testBit j = true -> L j = true
 | [], m, _, hm, j, h => hm j h
 | e :: es, m, he, hm, j, h => by
  refine zfZ hlen hacc hc es _ (λ e' h' => he e' (List.mem_cons_of_mem _ h')) (λ j hj => ?_) j h
  dsimp only at hj
  split at hj
  ·rename_i hb
   have hL := he e List.mem_cons_self hb
   rw [Nat.testBit_or, Nat.testBit_or, Bool.or_eq_true, Bool.or_eq_true] at hj
   rcases hj with (hj | hj) | hj
   ·exact hm j hj
   ·rw [Nat.testBit_two_pow] at hj
    have : e.on = j := by simpa using hj
    rw [<- this]; exact hL
   ·by_cases hlt : e.on < acc.length
    ·have e1 : acc.getD e.on 0 = acc[e.on] := by simp [List.getD, List.getElem?_eq_getElem hlt]
     rw [e1] at hj
     have ho : ops[e.on]? = some (ops[e.on]'(by omega)) := List.getElem?_eq_getElem (by omega)
     exact hacc L hc e.on hlt _ ho (hc e.on _ (by simpa using ho) hL) j hj
    ·have e1 : acc.getD e.on 0 = 0 := by simp [List.getD, List.getElem?_eq_none (by omega : acc.length <= e.on)]
     rw [e1] at hj
     simp at hj
  ·exact hm j hj
theorem zf0 {ops : List Oper} : ∀ (r : List Oper) (acc : List Nat), (∀ k, r[k]? = ops[acc.length + k]?) -> acc.length <= ops.length -> zst ops acc -> zst ops (zuk r acc) /\ (zuk r acc).length = acc.length + r.length
 | [], acc, _, _, h => ⟨h, rfl⟩
 | o :: r, acc, hr, hl, h => by
  have h0 : ops[acc.length]? = some o := by simpa using (hr 0).symm
  have hlt : acc.length < ops.length := (List.getElem?_eq_some_iff.1 h0).1
  obtain ⟨q1, q2⟩ := zf0 (ops := ops) r (acc ++ [zDp acc o]) (λ k => by
   have := hr (k + 1)
   simp only [List.getElem?_cons_succ] at this
   rw [this, List.length_append]
   congr 1
   simp; omega) (by simp; omega) (λ L hc i hi o' ho' hcame j hj => by
   by_cases hia : i < acc.length
   ·rw [List.getElem_append_left hia] at hj
    exact h L hc i hia o' ho' hcame j hj
   ·have e : i = acc.length := by simp at hi; omega
    subst e
    rw [List.getElem_append_right (Nat.le_refl _)] at hj
    simp only [Nat.sub_self, List.getElem_cons_zero] at hj
    rw [h0] at ho'
    cases ho'
    exact zfZ hl h hc o.after.toList 0 (λ e he hb => hcame e (by simpa using he) hb) (λ j hj => by simp at hj) j hj)
  exact ⟨q1, by unfold zuk; rw [q2]; simp; omega⟩
inductive Vl where
 | e (v : AV)
 | b (v : Option (List AV))
 | t (v : Nat -> Option Bool) (f : Option (Option (Nat × Nat × Nat) × Bool × (Nat -> Option Bool)))
def stk (s : AS) (t : Nat) : Option Bool := if TOB <= t then s.tok.lookup t else none
def zhp (s : AS) (F : Nat) : Option (Option (Nat × Nat × Nat) × Bool × (Nat -> Option Bool)) := if F = TOB / 64 then some (s.fm, JB s.tok, stk s) else none
theorem zhq {s s' : AS} {F : Nat} (hF : F = TOB / 64) (h : zhp s F = zhp s' F) : s.fm = s'.fm /\ JB s.tok = JB s'.tok /\ stk s = stk s' := by
 unfold zhp at h
 rw [if_pos hF, if_pos hF] at h
 have h := Option.some.inj h
 exact ⟨congrArg (·.1) h, congrArg (·.2.1) h, congrArg (·.2.2) h⟩
theorem zaS {s : AS} {F : Nat} (hF : F ≠ TOB / 64) : zhp s F = none := by unfold zhp; rw [if_neg hF]
theorem zhr {s s' : AS} {F : Nat} (h1 : s.fm = s'.fm) (h2 : JB s.tok = JB s'.tok) (h3 : stk s = stk s') : zhp s F = zhp s' F := by unfold zhp; rw [h1, h2, h3]
def AS.get (s : AS) : Rs -> Vl
 | .env t => .e (s.at t)
 | .box b => .b (s.bx b)
 | .tok F => .t (λ i => if cl i = F then s.tk i else none) (zhp s F)
theorem zfW {s s' : AS} {r : Rs} : s.get r = s'.get r -> zN s s' r := by
 cases r with
 | tok F =>
  intro h
  have h' : (λ i => if cl i = F then s.tk i else none) = (λ i => if cl i = F then s'.tk i else none) /\ zhp s F = zhp s' F := by simpa only [AS.get, Vl.t.injEq] using h
  refine ⟨λ t ht => ?_, λ hF => ?_⟩
  ·have := congrFun h'.1 t
   simpa only [ht, if_true] using this
  ·obtain ⟨q1, q2, -⟩ := zhq hF h'.2
   exact ⟨q1, q2⟩
 | _ => intro h; simpa [AS.get, zN] using h
theorem zrX {t : Nat} (h : t < TOB) : Nat.ble TOB t = false := by
 cases e : Nat.ble TOB t with
 | false => rfl
 | true => exact absurd (Nat.le_of_ble_eq_true e) (Nat.not_le.2 h)
theorem ziE {t : Nat} (h : t < TOB) : cl t = t / 64 := by unfold cl; rw [zrX h, cond_false]
theorem zpw {t : Nat} (h : TOB <= t) : cl t = TOB / 64 := by unfold cl; rw [Nat.ble_eq_true_of_le h, cond_true]
theorem zCu : 64 * (TOB / 64) = TOB := by unfold TOB; omega
theorem zy1 {t : Nat} (h : cl t = TOB / 64) : TOB <= t := by
 rcases Nat.lt_or_ge t TOB with q | q
 ·rw [ziE q] at h
  have e := zCu
  rw [<- h] at e
  exact Nat.le_trans (Nat.le_of_eq e.symm) (Nat.mul_div_le t 64)
 ·exact q
theorem zy2 {t : Nat} (h : cl t ≠ TOB / 64) : t < TOB /\ cl t = t / 64 := by
 rcases Nat.lt_or_ge t TOB with q | q
 ·exact ⟨q, ziE q⟩
 ·exact absurd (zpw q) h
theorem zcX (t : Nat) (v : Bool) (l : List (Nat × Bool)) : JB ((t, v) :: l) = (!(Nat.ble TOB t) && JB l) := by unfold JB; rw [List.all_cons]
structure Like (s s' : AS) : Prop where
 el : s.env.length = s'.env.length
 nl : s.nin = s'.nin
theorem Like.ap {s s' : AS} (h : Like s s') (W W' : Wr) : Like (s.ap W) (s'.ap W') := by
 obtain ⟨h1, h3⟩ := h
 cases W <;> cases W' <;> exact ⟨by simpa [AS.ap] using h1, h3⟩
theorem Like.aps1 {s s' : AS} (h : Like s s') : ∀ (W : List Wr), Like (s.aps W) s'
 | [] => h
 | x :: W => by
  have : Like (s.ap x) s' := by
   obtain ⟨h1, h3⟩ := h
   cases x <;> exact ⟨by simpa [AS.ap] using h1, h3⟩
  exact Like.aps1 this W
theorem Like.symm {s s' : AS} (h : Like s s') : Like s' s := ⟨h.el.symm, h.nl.symm⟩
theorem Like.trans {s s' s'' : AS} (h : Like s s') (h' : Like s' s'') : Like s s'' := ⟨h.el.trans h'.el, h.nl.trans h'.nl⟩
theorem Like.aps {s s' : AS} (h : Like s s') (W W' : List Wr) : Like (s.aps W) (s'.aps W') := ((h.aps1 W).symm.aps1 W').symm
theorem znB (s : AS) (x : Wr) (r : Rs) (h : x.at ≠ r) : (s.ap x).get r = s.get r := by
 cases x with
 | env t v =>
  cases r with
  | env t' =>
   show Vl.e _ = Vl.e _
   rw [AS.at_set, if_neg (λ e => h (by rw [e.1]; rfl))]
  | _ => rfl
 | box b v =>
  cases r with
  | box b' =>
   show Vl.b _ = Vl.b _
   rw [AS.bx_set, if_neg (λ e => h (by rw [e]; rfl))]
  | _ => rfl
 | tok t v =>
  cases r with
  | tok F =>
   show Vl.t _ _ = Vl.t _ _
   congr 1
   ·funext i
    by_cases hi : cl i = F
    ·rw [if_pos hi, if_pos hi, AS.tk_set, if_neg (λ e => h (by rw [<- hi, e]; rfl))]
    ·rw [if_neg hi, if_neg hi]
   ·by_cases hF : F = TOB / 64
    ·have hne : cl t ≠ TOB / 64 := λ e => h (congrArg Rs.tok (e.trans hF.symm))
     obtain ⟨hlt, -⟩ := zy2 hne
     refine zhr rfl ?_ ?_
     ·show JB ((t, v) :: s.tok) = JB s.tok
      rw [zcX, zrX hlt, Bool.not_false, Bool.true_and]
     ·funext i
      show (if TOB <= i then List.lookup i ((t, v) :: s.tok) else none) = (if TOB <= i then List.lookup i s.tok else none)
      by_cases hi : TOB <= i
      ·have : (i == t) = false := by simp only [beq_eq_false_iff_ne]; omega
       rw [if_pos hi, if_pos hi, List.lookup_cons, this]
      ·rw [if_neg hi, if_neg hi]
    ·rw [zaS hF, zaS hF]
  | _ => rfl
 | fm f =>
  cases r with
  | tok F =>
   have hF : F ≠ TOB / 64 := λ e => h (congrArg Rs.tok e.symm)
   show Vl.t _ _ = Vl.t _ _
   congr 1
   ·funext i
    by_cases hi : cl i = F
    ·rw [if_pos hi, if_pos hi, AS.tk_fm]
     obtain ⟨q1, q2⟩ := zy2 (λ e => hF (hi ▸ e))
     unfold AS.tk
     rw [jJ q1, jJ q1]; try rfl
    ·rw [if_neg hi, if_neg hi]
   ·rw [zaS hF, zaS hF]
  | _ => rfl
theorem zhu {s s' : AS} (hl : Like s s') (x : Wr) (r : Rs) (h : s.get r = s'.get r) : (s.ap x).get r = (s'.ap x).get r := by
 by_cases hx : x.at = r
 ·subst hx
  cases x with
  | env t v =>
   have h' : s.at t = s'.at t := by simpa [AS.get, Wr.at] using h
   show Vl.e _ = Vl.e _
   rw [AS.at_set, AS.at_set, hl.el, h']
  | box b v =>
   have h' : s.bx b = s'.bx b := by simpa [AS.get, Wr.at] using h
   show Vl.b _ = Vl.b _
   rw [AS.bx_set, AS.bx_set, h']
  | tok t v =>
   have h' : (λ i => if cl i = cl t then s.tk i else none) = (λ i => if cl i = cl t then s'.tk i else none) /\ zhp s (cl t) = zhp s' (cl t) := by simpa only [AS.get, Wr.at, Vl.t.injEq] using h
   show Vl.t _ _ = Vl.t _ _
   congr 1
   ·funext i
    have := congrFun h'.1 i
    by_cases hi : cl i = cl t
    ·rw [if_pos hi, if_pos hi] at this |-
     rw [AS.tk_set, AS.tk_set, this]
    ·rw [if_neg hi, if_neg hi]
   ·by_cases hF : cl t = TOB / 64
    ·obtain ⟨q1, q2, q3⟩ := zhq hF h'.2
     refine zhr q1 ?_ ?_
     ·show JB ((t, v) :: s.tok) = JB ((t, v) :: s'.tok)
      rw [zcX, zcX, q2]
     ·funext i
      have := congrFun q3 i
      show (if TOB <= i then List.lookup i ((t, v) :: s.tok) else none) = (if TOB <= i then List.lookup i ((t, v) :: s'.tok) else none)
      have this : (if TOB <= i then List.lookup i s.tok else none) = (if TOB <= i then List.lookup i s'.tok else none) := this
      by_cases hi : TOB <= i
      ·rw [if_pos hi, if_pos hi] at this |-
       rw [List.lookup_cons, List.lookup_cons, this]
      ·rw [if_neg hi, if_neg hi]
    ·rw [zaS hF, zaS hF]
  | fm f =>
   have h' : (λ i => if cl i = TOB / 64 then s.tk i else none) = (λ i => if cl i = TOB / 64 then s'.tk i else none) /\ zhp s (TOB / 64) = zhp s' (TOB / 64) := by simpa only [AS.get, Wr.at, Vl.t.injEq] using h
   obtain ⟨q1, q2, q3⟩ := zhq rfl h'.2
   show Vl.t _ _ = Vl.t _ _
   congr 1
   ·funext i
    by_cases hi : cl i = TOB / 64
    ·rw [if_pos hi, if_pos hi, AS.tk_fm, AS.tk_fm]
     have := congrFun q3 i
     have this : (if TOB <= i then List.lookup i s.tok else none) = (if TOB <= i then List.lookup i s'.tok else none) := this
     rw [if_pos (zy1 hi), if_pos (zy1 hi)] at this
     rw [this]
    ·rw [if_neg hi, if_neg hi]
   ·exact zhr rfl q2 q3
 ·rw [znB s x r hx, znB s' x r hx]; exact h
theorem zaT : ∀ (W : List Wr) (s : AS) (r : Rs), r ∉ W.map Wr.at -> (s.aps W).get r = s.get r
 | [], s, r, _ => rfl
 | x :: W, s, r, h => by
  show ((s.ap x).aps W).get r = _
  rw [zaT W _ r (λ e => h (by simp only [List.map_cons]; exact List.mem_cons_of_mem _ e)), znB s x r (λ e => h (by simp only [List.map_cons]; rw [e]; exact List.mem_cons_self))]
theorem Jk : ∀ (W : List Wr) (s s' : AS) (r : Rs), Like s s' -> s.get r = s'.get r -> (s.aps W).get r = (s'.aps W).get r
 | [], _, _, _, _, h => h
 | x :: W, s, s', r, hl, h => Jk W (s.ap x) (s'.ap x) r (hl.ap x x) (zhu hl x r h)
def mrg (L : Nat -> Bool) : Nat -> Trc -> AS -> AS
 | _, [], s => s
 | i, p :: r, s => mrg L (i + 1) r (if L i then s.aps p.1 else s)
theorem zbI (L : Nat -> Bool) : ∀ (tr : Trc) (i : Nat) (s s' : AS), Like s s' -> Like (mrg L i tr s) s'
 | [], _, _, _, h => h
 | p :: r, i, s, s', h => by
  unfold mrg
  refine zbI L r (i + 1) _ s' ?_
  split
  ·exact h.aps1 p.1
  ·exact h
theorem JX (L L' : Nat -> Bool) (r : Rs) : ∀ (tr : Trc) (i : Nat) (s s' : AS), Like s s' -> s.get r = s'.get r -> (∀ k (h : k < tr.length), L (i + k) = L' (i + k) \/ r ∉ (tr[k]).1.map Wr.at) -> (mrg L i tr s).get r = (mrg L' i tr s').get r
 | [], _, _, _, _, h, _ => h
 | p :: t, i, s, s', hl, h, hk => by
  unfold mrg
  have h0 := hk 0 (by simp)
  simp only [Nat.add_zero, List.getElem_cons_zero] at h0
  have hnext : ∀ k (h : k < t.length), L (i + 1 + k) = L' (i + 1 + k) \/ r ∉ (t[k]).1.map Wr.at := λ k hk' => by
   have := hk (k + 1) (by simpa using hk')
   simp only [List.getElem_cons_succ] at this
   rw [show i + 1 + k = i + (k + 1) by omega]; exact this
  rcases h0 with h0 | h0
  ·rw [h0]
   split
   ·exact JX L L' r t (i + 1) _ _ (hl.aps p.1 p.1) (Jk p.1 s s' r hl h) hnext
   ·exact JX L L' r t (i + 1) _ _ hl h hnext
  ·refine JX L L' r t (i + 1) _ _ ?_ ?_ hnext
   ·split <;> split
    ·exact hl.aps p.1 p.1
    ·exact hl.aps1 p.1
    ·exact (hl.symm.aps1 p.1).symm
    ·exact hl
   ·split <;> split
    ·rw [zaT p.1 s r h0, zaT p.1 s' r h0]; exact h
    ·rw [zaT p.1 s r h0]; exact h
    ·rw [zaT p.1 s' r h0]; exact h
    ·exact h
theorem zah (L : Nat -> Bool) : ∀ (tr : Trc) (i : Nat) (s : AS), (∀ k, k < tr.length -> L (i + k) = false) -> mrg L i tr s = s
 | [], _, _, _ => rfl
 | p :: r, i, s, h => by
  unfold mrg
  have h0 := h 0 (by simp)
  rw [Nat.add_zero] at h0
  rw [h0]
  exact zah L r (i + 1) s λ k hk => by rw [show i + 1 + k = i + (k + 1) by omega]; exact h (k + 1) (by simpa using hk)
theorem zi6 : ∀ (tr : Trc) (i k : Nat) (h : k < tr.length) (s : AS), mrg (λ j => decide (j < i + k + 1)) i tr s = (mrg (λ j => decide (j < i + k)) i tr s).aps (tr[k]).1
 | p :: r, i, 0, h, s => by
  unfold mrg
  have e1 : decide (i < i + 0 + 1) = true := by simp
  have e2 : decide (i < i + 0) = false := by simp
  rw [e1, e2]
  simp only [if_true, Bool.false_eq_true, if_false, List.getElem_cons_zero]
  rw [zah _ r (i + 1) _ (λ k hk => by simp; try omega), zah _ r (i + 1) _ (λ k hk => by simp; try omega)]
 | p :: r, i, k + 1, h, s => by
  unfold mrg
  have e1 : decide (i < i + (k + 1) + 1) = true := decide_eq_true (by omega)
  have e2 : decide (i < i + (k + 1)) = true := decide_eq_true (by omega)
  rw [e1, e2]
  simp only [if_true, List.getElem_cons_succ]
  have := zi6 r (i + 1) k (by simpa using h) (s.aps p.1)
  rw [show i + 1 + k = i + (k + 1) by omega] at this
  exact this
theorem zf6 {T : Tab} {Γ : Gam} {ops : List Oper} : ∀ (r : List Oper) (s s' : AS) (tr : Trc) (i : Nat), zfz T Γ ops r s = some (tr, s') -> tr.length = r.length /\ mrg (λ j => decide (j < i + tr.length)) i tr s = s' /\
  ∀ k (h : k < tr.length) (h' : k < r.length), ZL T Γ ops r[k] (mrg (λ j => decide (j < i + k)) i tr s) = some (tr[k]).1 /\ (tr[k]).2 = Zy ops (mrg (λ j => decide (j < i + k)) i tr s) r[k]
 | [], s, s', tr, i, h => by cases h; exact ⟨rfl, rfl, λ k h => by cases h⟩
 | o :: r, s, s', tr, i, h => by
  unfold zfz at h
  split at h
  ·rename_i W hW
   split at h
   ·rename_i tr' s'' hr
    cases h
    obtain ⟨h1, h2, h3⟩ := zf6 r (s.aps W) s' tr' (i + 1) hr
    have first : ∀ n, 0 < n -> mrg (λ j => decide (j < i + n)) i ((W, Zy ops s o) :: tr') s = mrg (λ j => decide (j < i + n)) (i + 1) tr' (s.aps W) := λ n hn => by
     conv => lhs; unfold mrg
     have e1 : decide (i < i + n) = true := decide_eq_true (by omega)
     rw [e1]
     rfl
    refine ⟨by simp [h1], ?_, λ k hk hk' => ?_⟩
    ·rw [first _ (by simp)]
     rw [show i + ((W, Zy ops s o) :: tr').length = i + 1 + tr'.length by simp; omega]
     exact h2
    ·cases k with
     | zero =>
      have e0 : mrg (λ j => decide (j < i + 0)) i ((W, Zy ops s o) :: tr') s = s := zah _ _ _ _ λ k hk => by simp
      rw [e0]
      exact ⟨hW, rfl⟩
     | succ k =>
      rw [first _ (by omega), show i + (k + 1) = i + 1 + k by omega]
      exact h3 k (by simpa using hk) (by simpa using hk')
   ·cases h
  ·cases h
end
section
open Go.RowKit
section
variable {P : Program} {T : Tab} {Γ : Gam} {B : Base} {M : Mem} {ρ : Rho} {σ : Sig} {s s' : AS} {a : Act} {w : World} {ops : List Oper} {Q : Exit -> Act -> World -> Prop}
theorem SimW.congr (h : SimW B M ρ σ s a w) (hl : Like s s') (hg : ∀ r, s.get r = s'.get r) : SimW B M ρ σ s' a w := by
 have e1 : ∀ t, s'.at t = s.at t := λ t => by have := hg (.env t); simpa [AS.get] using this.symm
 have e2 : ∀ t, s'.bx t = s.bx t := λ t => by have := hg (.box t); simpa [AS.get] using this.symm
 have e3 : ∀ t, s'.tk t = s.tk t := λ t => ((zfW (hg (.tok (cl t)))).1 t rfl).symm
 exact { h with
  len := by rw [h.len]; exact hl.el
  own := λ k hk hb => h.own k (by rw [hl.nl]; exact hk) (by rw [<- e2]; exact hb)
  inj := λ b b' g h1 h2 => h.inj b b' g (by rw [<- e2]; exact h1) (by rw [<- e2]; exact h2)
  capB := λ k hk => h.capB k (by rw [hl.nl]; exact hk)
  nink := λ k hk => by rw [e3]; exact h.nink k (by rw [hl.nl]; exact hk)
  nin := by rw [<- hl.nl]; exact h.nin
  fresh := λ b g hn hr => h.fresh b g (by rw [hl.nl]; exact hn) hr
  env := λ t => by rw [e1]; exact h.env t
  box := λ b cs hb => by rw [e2] at hb; exact h.box b cs hb
  rho := λ b g hb => by rw [e2, e3]; exact h.rho b g hb
  tok := λ t sp ht hs => by
   rw [e3] at ht
   obtain ⟨q1, q2, q3, q4⟩ := h.tok t sp ht hs
   exact ⟨q1, q2, q3, λ b hb => q4 b (by rw [<- e2]; exact hb)⟩
  sig := λ t sp hs => by rw [e3]; exact h.sig t sp hs
  tinj := λ t t' sp sp' ht ht' => by rw [e3] at ht ht'; exact h.tinj t t' sp sp' ht ht' }
theorem Sim.congr (h : Sim B s a w) (hl : Like s s') (hg : ∀ r, s.get r = s'.get r) : Sim B s' a w := by
 obtain ⟨M, ρ, σ, h⟩ := h
 exact ⟨M, ρ, σ, h.congr hl hg⟩
theorem zks (b : Bool) : undef ≠ .bool b := by intro h; cases h
theorem znD (hS : Sim B s a w) {o : Oper} {g : Bool} (hg : zkt ops s o = some g) : Region.wanted o (yielded ops.toArray a.tmps) = g := by
 obtain ⟨M, ρ, σ, h⟩ := hS
 unfold zkt at hg
 unfold Region.wanted
 split at hg
 ·rename_i hn; rw [hn]; cases hg; rfl
 ·rename_i p hp
  obtain ⟨j, want⟩ := p
  rw [hp]
  unfold zhv at hg
  rw [hp] at hg
  simp only at hg
  split at hg
  ·rename_i t want' ht
   split at ht
   ·rename_i t0 ht0
    cases ht
    split at hg
    ·rename_i b hb
     cases hg
     have hr := h.env t
     rw [hb] at hr
     have e := hr.v_inv
     have e2 : a.tmps[t]? = some (.bool b) := by
      rw [Array.getD_eq_getD_getElem?] at e
      cases hq : a.tmps[t]? with
      | none => rw [hq] at e; exact absurd e (zks b)
      | some v => rw [hq] at e; simp at e; rw [e]
     simp only [yielded]
     have e3 : ((ops.toArray[j]?).bind (·.dst)) = some t := by simpa using ht0
     rw [e3]
     simp only [Option.bind_some, e2]
     cases b <;> cases want <;> rfl
    ·rename_i x hnb hb
     cases hg
     have hr := h.env t
     rw [hb] at hr
     have e := hr.v_inv
     simp only [yielded]
     have e3 : ((ops.toArray[j]?).bind (·.dst)) = some t := by simpa using ht0
     rw [e3]
     simp only [Option.bind_some]
     rw [Array.getD_eq_getD_getElem?] at e
     cases hq : a.tmps[t]? with
     | none => rfl
     | some v =>
      rw [hq] at e
      simp at e
      subst e
      cases v <;> first | rfl | exact absurd rfl (hnb _)
    ·cases hg
   ·cases ht
  ·cases hg
theorem ziX (hT : TabOk P T) (hG : GOk P Γ) (hS : Sim B s a w) {o : Oper} {W : List Wr} (hs : ZL T Γ ops o s = some W) (K : Act -> World -> Prop) (hK : ∀ a' w', Sim B (s.aps W) a' w' -> K a' w') :
  if Region.wanted o (yielded ops.toArray a.tmps) = true then o.wp P a w K Q else K (a.put o.dst undef) w := by
 unfold ZL at hs
 split at hs
 ·rename_i hg
  rw [znD hS hg, if_pos rfl]
  exact zfu hT hG hS hs K Q hK
 ·rename_i hg
  rw [znD hS hg, if_neg (by simp)]
  cases hs
  obtain ⟨M, ρ, σ, h⟩ := hS
  exact hK _ _ ⟨M, ρ, σ, h.out .v o.dst⟩
 ·cases hs
theorem zka {o : Oper} (h : ∀ r ∈ Zy ops s o, zN s s' r) : zkt ops s' o = zkt ops s o := by
 unfold zkt
 split
 ·rfl
 ·split
  ·rename_i t want ht
   have : s.at t = s'.at t := h (.env t) (List.mem_append_left _ (by rw [ht]; exact List.mem_cons_self))
   rw [this]
  ·rfl
theorem zhw {o : Oper} {W : List Wr} (hs : ZL T Γ ops o s = some W) (h : ∀ r ∈ Zy ops s o, zN s s' r) (hni : s.nin = s'.nin) : ZL T Γ ops o s' = some W := by
 unfold ZL at hs |-
 rw [zka h]
 cases hg : zkt ops s o with
 | none => rw [hg] at hs; cases hs
 | some b =>
  rw [hg] at hs
  cases b with
  | true => exact zkq hs (λ r hr => h r (List.mem_append_right _ hr)) hni
  | false => exact hs
theorem zm6 (hT : TabOk P T) (hG : GOk P Γ) (hdown : zj8 ops.toArray = true) {tr : Trc} (hrun : zfz T Γ ops ops s = some (tr, s')) (hnc : zei tr (zuk ops []) 0 = true)
  (hS : Sim B s a w) (hQ : ∀ a' w', Sim B s' a' w' -> Q .normal a' w') : wpAny P .any ops.toArray Q ops.toArray.size (Array.replicate ops.toArray.size false) a w.drew := by
 obtain ⟨n1, n2⟩ := zcY _ _ _ hnc
 obtain ⟨c1, c2, c3⟩ := zf6 ops s s' tr 0 hrun
 obtain ⟨b1, b2⟩ := zf0 (ops := ops) ops [] (λ k => by simp) (by simp) (λ L _ i h => by cases h)
 simp only [List.length_nil, Nat.zero_add] at b2
 refine zch (ops := ops.toArray) (λ L a w => Sim B (mrg L 0 tr s) a w) hdown ?_ ?_ ?_
 ·obtain ⟨M, ρ, σ, h⟩ := hS
  refine ⟨M, ρ, σ, ?_⟩
  show SimW B M ρ σ (mrg (λ _ => false) 0 tr s) a w.drew
  rw [zah _ _ _ _ (λ _ _ => rfl)]
  exact h.drew
 ·have key : ∀ (l : List Oper) (i : Nat), (∀ k, l[k]? = ops[i + k]?) -> Steps2 P ops.toArray Q (λ L a w => Sim B (mrg L 0 tr s) a w) l i := by
   intro l
   induction l with
   | nil => intro i _; trivial
   | cons o r ih =>
    intro i hl
    have h0 : ops[i]? = some o := by simpa using (hl 0).symm
    obtain ⟨hio, hoe⟩ := List.getElem?_eq_some_iff.1 h0
    refine ⟨?_, ih (i + 1) (λ k => by have := hl (k + 1); simpa [Nat.add_assoc, Nat.add_comm 1 k] using this)⟩
    intro L a w hLi hcl hcame hI K' hK'
    have hit : i < tr.length := by omega
    obtain ⟨g1, g2⟩ := c3 i hit hio
    rw [hoe] at g1 g2
    simp only [Nat.zero_add] at g1 g2
    -- what is at odds
    have odds : ∀ r, (r ∈ (tr[i]).2 \/ r ∈ (tr[i]).1.map Wr.at) -> ∀ k (hk : k < tr.length), k ≠ i -> (L k = decide (k < i)) \/ r ∉ (tr[k]).1.map Wr.at := by
     intro r hr k hk hki
     by_cases hw : r ∈ (tr[k]).1.map Wr.at
     ·left
      by_cases hlt : k < i
      ·rw [decide_eq_true hlt]
       rcases n2 k i hk hit (by omega) hlt with hb | hc
       ·rw [Nat.zero_add] at hb
        exact b1 L hcl i (by omega) o h0 hcame k hb
       ·exfalso
        unfold zy8 at hc
        simp only [Bool.or_eq_false_iff] at hc
        rcases hr with hr | hr
        ·have := (zbF _ _).2 ⟨r, hw, hr⟩; rw [hc.1.1] at this; cases this
        ·have := (zbF _ _).2 ⟨r, hw, hr⟩; rw [hc.1.2] at this; cases this
      ·rw [decide_eq_false hlt]
       cases hLk : L k
       ·rfl
       ·exfalso
        have hkt : k < ops.length := by omega
        have hok : ops[k]? = some ops[k] := List.getElem?_eq_getElem hkt
        rcases n2 i k hit hk (by omega) (by omega) with hb | hc
        ·rw [Nat.zero_add] at hb
         have := b1 L hcl k (by omega) _ hok (hcl k _ (by simpa using hok) hLk) i hb
         rw [hLi] at this; cases this
        ·unfold zy8 at hc
         simp only [Bool.or_eq_false_iff] at hc
         rcases hr with hr | hr
         ·have := (zbF _ _).2 ⟨r, hr, hw⟩; rw [hc.2] at this; cases this
         ·have := (zbF _ _).2 ⟨r, hr, hw⟩; rw [hc.1.2] at this; cases this
     ·exact .inr hw
    have rfls : Like s s := ⟨rfl, rfl⟩
    have A : ∀ r, (r ∈ (tr[i]).2 \/ r ∈ (tr[i]).1.map Wr.at) -> (mrg (λ j => decide (j < i)) 0 tr s).get r = (mrg L 0 tr s).get r := λ r hr => by
     refine (JX L (λ j => decide (j < i)) r tr 0 s s rfls rfl λ k hk => ?_).symm
     rw [Nat.zero_add]
     by_cases hki : k = i
     ·subst hki; left; rw [hLi]; simp
     ·exact odds r hr k hk hki
    have lk : ∀ L', Like (mrg L' 0 tr s) s := λ L' => zbI L' tr 0 s s rfls
    have hst : ZL T Γ ops o (mrg L 0 tr s) = some (tr[i]).1 := by
     exact zhw g1 (λ r hr => zfW (A r (.inl (by rw [g2]; exact hr)))) ((lk _).trans (lk _).symm).nl
    refine ziX hT hG hI hst K' λ a' w' hS' => hK' a' w' ?_
    refine hS'.congr ((lk L).aps1 _ |>.trans (lk _).symm) λ r => ?_
    by_cases hr : r ∈ (tr[i]).1.map Wr.at
    ·have e1 : (mrg (Jl L i) 0 tr s).get r = (mrg (λ j => decide (j < i + 1)) 0 tr s).get r := JX _ _ r tr 0 s s rfls rfl λ k hk => by
      rw [Nat.zero_add]
      by_cases hki : k = i
      ·subst hki; left; simp [Jl]
      ·rcases odds r (.inr hr) k hk hki with q | q
       ·left
        unfold Jl
        rw [if_neg hki, q]
        by_cases hlt : k < i
        ·rw [decide_eq_true hlt, decide_eq_true (by omega : k < i + 1)]
        ·rw [decide_eq_false hlt, decide_eq_false (by omega : ¬ k < i + 1)]
       ·exact .inr q
     have e2 := zi6 tr 0 i hit s
     simp only [Nat.zero_add] at e2
     rw [e1, e2]
     exact Jk _ _ _ r ((lk _).trans (lk _).symm) (A r (.inr hr)).symm
    ·rw [zaT _ _ r hr]
     refine JX _ _ r tr 0 s s rfls rfl λ k hk => ?_
     rw [Nat.zero_add]
     by_cases hki : k = i
     ·subst hki; exact .inr hr
     ·left; unfold Jl; rw [if_neg hki]
  exact key ops 0 (λ k => by simp)
 ·intro L a w hall hI
  refine hQ a w ?_
  rw [<- c2]
  refine hI.congr ((zbI L tr 0 s s ⟨rfl, rfl⟩).trans (zbI _ tr 0 s s ⟨rfl, rfl⟩).symm) λ r => JX _ _ r tr 0 s s ⟨rfl, rfl⟩ rfl λ k hk => ?_
  left
  rw [hall (0 + k) (by simp; omega)]
  simp; omega
end
end
section
open Go.RowKit
inductive Ck where
 | int (k : IntKind)
 | bool
 | str
 | sl (n : Nat)
 | tk (n t : Nat)
 | nil
 | vs (b n : Nat)
 | raw
 deriving DecidableEq
@[reducible] def CkT : Ck -> Type
 | .int _ => Int
 | .bool => Bool
 | .str => ByteArray
 | .sl _ => List (List AV)
 | .tk _ _ => List (List AV)
 | .nil => Unit
 | .vs _ _ => Nat
 | .raw => AV
@[reducible] def Tp : List Ck -> Type
 | [] => Unit
 | k :: ks => CkT k × Tp ks
def zf8 : (k : Ck) -> CkT k -> AV
 | .int k, n => .v (.int k n)
 | .bool, b => .v (.bool b)
 | .str, s => .v (.string s)
 | .sl n, xs => .list n xs none
 | .tk n t, xs => .list n xs (some t)
 | .nil, _ => .v (.slice none 0 0)
 | .vs b n, len => .vs b 0 len n
 | .raw, x => x
def enc : (ks : List Ck) -> Tp ks -> List AV
 | [], _ => []
 | k :: ks, e => zf8 k e.1 :: enc ks e.2
def zno : (k : Ck) -> AV -> Option (CkT k)
 | .int k, x => (match x with | .v (.int k' n) => if k' = k then some n else none | _ => none)
 | .bool, x => (match x with | .v (.bool b) => some b | _ => none)
 | .str, x => (match x with | .v (.string s) => some s | _ => none)
 | .sl n, x => Zf n x
 | .tk _ _, _ => none
 | .nil, _ => none
 | .vs _ _, _ => none
 | .raw, x => some x
def dec : (ks : List Ck) -> List AV -> Option (Tp ks)
 | [], _ => some ()
 | k :: ks, l => match l with
  | x :: r => (match zno k x with
   | some a => (match dec ks r with | some b => some (a, b) | none => none)
   | none => none)
  | [] => none
def zdf : (k : Ck) -> AV -> Option (CkT k)
 | .int k, x => (match x with | .v (.int k' n) => if k' = k then some n else none | _ => none)
 | .bool, x => (match x with | .v (.bool b) => some b | _ => none)
 | .str, x => (match x with | .v (.string s) => some s | _ => none)
 | .sl n, x => (match x with | .list m xs none => if m = n then some xs else none | _ => none)
 | .tk n t, x => (match x with | .list m xs (some t') => if m = n /\ t' = t then some xs else none | _ => none)
 | .nil, x => (match x with | .v (.slice none 0 0) => some () | _ => none)
 | .vs b n, x => (match x with | .vs b' 0 len n' => if b' = b /\ n' = n then some len else none | _ => none)
 | .raw, x => some x
def zpB : (ks : List Ck) -> List AV -> Option (Tp ks)
 | [], l => (match l with | [] => some () | _ :: _ => none)
 | k :: ks, l => match l with
  | x :: r => (match zdf k x with
   | some a => (match zpB ks r with | some b => some (a, b) | none => none)
   | none => none)
  | [] => none
theorem zpC : ∀ {k : Ck} {x : AV} {a : CkT k}, zdf k x = some a -> x = zf8 k a
 | .int k, x, a, h => by
  simp only [zdf] at h
  split at h
  ·split at h
   ·rename_i e; cases h; subst e; rfl
   ·cases h
  ·cases h
 | .bool, x, a, h => by simp only [zdf] at h; split at h <;> cases h; rfl
 | .str, x, a, h => by simp only [zdf] at h; split at h <;> cases h; rfl
 | .sl n, x, a, h => by
  simp only [zdf] at h
  split at h
  ·split at h
   ·rename_i e; cases h; subst e; rfl
   ·cases h
  ·cases h
 | .tk n t, x, a, h => by
  simp only [zdf] at h
  split at h
  ·split at h
   ·rename_i e; cases h; obtain ⟨rfl, rfl⟩ := e; rfl
   ·cases h
  ·cases h
 | .nil, x, a, h => by simp only [zdf] at h; split at h <;> cases h; rfl
 | .vs b n, x, a, h => by
  simp only [zdf] at h
  split at h
  ·split at h
   ·rename_i e; cases h; obtain ⟨rfl, rfl⟩ := e; rfl
   ·cases h
  ·cases h
 | .raw, x, a, h => by simp only [zdf] at h; cases h; rfl
theorem zeW : ∀ {ks : List Ck} {l : List AV} {e : Tp ks}, zpB ks l = some e -> l = enc ks e
 | [], l, e, h => by
  simp only [zpB] at h
  split at h
  ·rfl
  ·cases h
 | k :: ks, l, e, h => by
  simp only [zpB] at h
  split at h
  ·rename_i x r
   split at h
   ·rename_i a ha
    split at h
    ·rename_i b hb
     cases h
     show x :: r = zf8 k a :: enc ks b
     rw [zpC ha, zeW hb]
    ·cases h
   ·cases h
  ·cases h
def Ck.data : Ck -> Bool
 | .tk _ _ => false
 | .nil => false
 | .vs _ _ => false
 | _ => true
theorem zpA : ∀ {k : Ck} (a : CkT k), k.data = true -> zno k (zf8 k a) = some a
 | .int k, a, _ => by simp [zno, zf8]
 | .bool, a, _ => rfl
 | .str, a, _ => rfl
 | .sl n, a, _ => by simp [zno, zf8, Zf]
 | .tk _ _, _, h => by cases h
 | .nil, _, h => by cases h
 | .vs _ _, _, h => by cases h
 | .raw, a, _ => rfl
theorem zhm : ∀ {ks : List Ck} (e : Tp ks) (r : List AV), ks.all Ck.data = true -> dec ks (enc ks e ++ r) = some e
 | [], e, r, _ => rfl
 | k :: ks, e, r, h => by
  rw [List.all_cons, Bool.and_eq_true] at h
  show dec (k :: ks) (zf8 k e.1 :: (enc ks e.2 ++ r)) = some e
  simp only [dec, zpA e.1 h.1, zhm e.2 r h.2]
theorem zbD {ks : List Ck} (e : Tp ks) (h : ks.all Ck.data = true) : dec ks (enc ks e) = some e := by
 have := zhm e [] h
 rwa [List.append_nil] at this
theorem zeY : ∀ {ks : List Ck} (e : Tp ks), (enc ks e).length = ks.length
 | [], e => rfl
 | k :: ks, e => by show (enc ks e.2).length + 1 = ks.length + 1; rw [zeY e.2]
def zi0 (T : Tab) : List TypeDesc -> Option (List Ck)
 | [] => some []
 | d :: ds => match zi0 T ds with
  | some ks => (match d with
   | .int k => some (.int k :: ks)
   | .bool => some (.bool :: ks)
   | .string => some (.str :: ks)
   | .slice e => (match T.i e with | some i => some (.sl i.1 :: ks) | none => none)
   | _ => some (.raw :: ks))
  | none => none
theorem ziL {T : Tab} : ∀ {ds : List TypeDesc} {ks : List Ck} {cs : List AV} {off : Nat} {e : Tp ks}, zi0 T ds = some ks -> dec ks (cs.drop off) = some e -> zuz T ds cs off = some (enc ks e)
 | [], ks, cs, off, e, hk, h => by cases hk; rfl
 | d :: ds, ks, cs, off, e, hk, h => by
  unfold zi0 at hk
  split at hk
  ·rename_i ks' hks
   have key : ∀ k, ks = k :: ks' -> (∀ x a, zno k x = some a -> datC T d x = some (zf8 k a)) -> zuz T (d :: ds) cs off = some (enc ks e) := by
    intro k ek hc
    subst ek
    unfold dec at h
    split at h
    ·rename_i x r hl
     split at h
     ·rename_i a ha
      split at h
      ·rename_i b hb
       cases h
       have hy : cs[off]? = some x := by
        have := congrArg (λ l : List AV => l[0]?) hl
        simpa using this
       have hr : cs.drop (off + 1) = r := by
        have := congrArg List.tail hl
        simpa [List.tail_drop] using this
       rw [<- hr] at hb
       simp only [zuz, hy, hc _ _ ha, ziL hks hb]
       rfl
      ·cases h
     ·cases h
    ·cases h
   split at hk
   ·cases hk
    refine key _ rfl λ x a ha => ?_
    simp only [zno] at ha
    split at ha
    ·split at ha
     ·rename_i e2; cases ha; subst e2; simp [datC, ze6, zf8]
     ·cases ha
    ·cases ha
   ·cases hk
    refine key _ rfl λ x a ha => ?_
    simp only [zno] at ha
    split at ha <;> cases ha
    simp [datC, ze6, zf8]
   ·cases hk
    refine key _ rfl λ x a ha => ?_
    simp only [zno] at ha
    split at ha <;> cases ha
    simp [datC, ze6, zf8]
   ·split at hk
    ·rename_i i hi
     cases hk
     refine key _ rfl λ x a ha => ?_
     simp only [zno] at ha
     simp only [datC, hi, ha, zf8]
    ·cases hk
   ·cases hk
    rename_i h1 h2 h3 h4
    refine key _ rfl λ x a ha => ?_
    cases ha
    cases d <;> first | exact absurd rfl (h1 _) | exact absurd rfl h2 | exact absurd rfl h3 | exact absurd rfl (h4 _) | rfl
  ·cases hk
variable {α : Type}
def zzF (k0 : IntKind) (a : AV) (k : Int -> Option α) : Option α := match a with
 | .v (.int k' n) => if k' = k0 then k n else none
 | _ => none
theorem znY {k0 : IntKind} {a : AV} {k : Int -> Option α} {x : α} (h : zzF k0 a k = some x) : ∃ n, a = .v (.int k0 n) /\ k n = some x := by
 unfold zzF at h
 split at h
 ·split at h
  ·rename_i e; subst e; exact ⟨_, rfl, h⟩
  ·cases h
 ·cases h
def zp0 (a : AV) (k : Bool -> Option α) : Option α := match a with
 | .v (.bool b) => k b
 | _ => none
theorem zp1 {a : AV} {k : Bool -> Option α} {x : α} (h : zp0 a k = some x) : ∃ n, a = .v (.bool n) /\ k n = some x := by
 unfold zp0 at h
 split at h
 ·exact ⟨_, rfl, h⟩
 ·cases h
def zAD (a : AV) (k : ByteArray -> Option α) : Option α := match a with
 | .v (.string b) => k b
 | _ => none
theorem zu7 {a : AV} {k : ByteArray -> Option α} {x : α} (h : zAD a k = some x) : ∃ n, a = .v (.string n) /\ k n = some x := by
 unfold zAD at h
 split at h
 ·exact ⟨_, rfl, h⟩
 ·cases h
def zAB (a : AV) (k : Option α) : Option α := match a with
 | .v (.slice none 0 0) => k
 | _ => none
theorem zu5 {a : AV} {k : Option α} {x : α} (h : zAB a k = some x) : a = .v (.slice none 0 0) /\ k = some x := by
 unfold zAB at h
 split at h
 ·exact ⟨rfl, h⟩
 ·cases h
def zvQ (n : Nat) (a : AV) (k : List (List AV) -> Option α) : Option α := match a with
 | .list m xs none => bif Nat.beq m n then k xs else none
 | _ => none
theorem zhC {n : Nat} {a : AV} {k : List (List AV) -> Option α} {x : α} (h : zvQ n a k = some x) : ∃ xs, a = .list n xs none /\ k xs = some x := by
 unfold zvQ at h
 split at h
 ·rename_i m xs
  cases e : Nat.beq m n with
  | true => rw [e] at h; exact ⟨xs, by rw [Nat.eq_of_beq_eq_true e], h⟩
  | false => rw [e] at h; cases h
 ·cases h
def zAE (n t : Nat) (a : AV) (k : List (List AV) -> Option α) : Option α := match a with
 | .list m xs (some t') => bif Nat.beq m n then (bif Nat.beq t' t then k xs else none) else none
 | _ => none
theorem zu8 {n t : Nat} {a : AV} {k : List (List AV) -> Option α} {x : α} (h : zAE n t a k = some x) : ∃ xs, a = .list n xs (some t) /\ k xs = some x := by
 unfold zAE at h
 split at h
 ·rename_i m xs t'
  cases e : Nat.beq m n with
  | true =>
   rw [e] at h
   simp only [cond_true] at h
   cases e2 : Nat.beq t' t with
   | true => rw [e2] at h; exact ⟨xs, by rw [Nat.eq_of_beq_eq_true e, Nat.eq_of_beq_eq_true e2], h⟩
   | false => rw [e2] at h; cases h
  | false => rw [e] at h; cases h
 ·cases h
def zzH (b o : Nat) (a : AV) (k : Option α) : Option α := match a with
 | .ptr b' o' => bif Nat.beq b' b then (bif Nat.beq o' o then k else none) else none
 | _ => none
theorem znZ {b o : Nat} {a : AV} {k : Option α} {x : α} (h : zzH b o a k = some x) : a = .ptr b o /\ k = some x := by
 unfold zzH at h
 split at h
 ·rename_i b' o'
  cases e : Nat.beq b' b with
  | true =>
   rw [e] at h
   simp only [cond_true] at h
   cases e2 : Nat.beq o' o with
   | true => rw [e2] at h; exact ⟨by rw [Nat.eq_of_beq_eq_true e, Nat.eq_of_beq_eq_true e2], h⟩
   | false => rw [e2] at h; cases h
  | false => rw [e] at h; cases h
 ·cases h
def zp2 (b : Nat) (a : AV) (k : Option α) : Option α := match a with
 | .mref b' => bif Nat.beq b' b then k else none
 | _ => none
theorem zp3 {b : Nat} {a : AV} {k : Option α} {x : α} (h : zp2 b a k = some x) : a = .mref b /\ k = some x := by
 unfold zp2 at h
 split at h
 ·rename_i b'
  cases e : Nat.beq b' b with
  | true => rw [e] at h; exact ⟨by rw [Nat.eq_of_beq_eq_true e], h⟩
  | false => rw [e] at h; cases h
 ·cases h
def pVs (b n : Nat) (a : AV) (k : Nat -> Nat -> Option α) : Option α := match a with
 | .vs b' off len n' => bif Nat.beq b' b then (bif Nat.beq n' n then k off len else none) else none
 | _ => none
theorem zzI {b n : Nat} {a : AV} {k : Nat -> Nat -> Option α} {x : α} (h : pVs b n a k = some x) : ∃ off len, a = .vs b off len n /\ k off len = some x := by
 unfold pVs at h
 split at h
 ·rename_i b' off len n'
  cases e : Nat.beq b' b with
  | true =>
   rw [e] at h
   simp only [cond_true] at h
   cases e2 : Nat.beq n' n with
   | true => rw [e2] at h; exact ⟨off, len, by rw [Nat.eq_of_beq_eq_true e, Nat.eq_of_beq_eq_true e2], h⟩
   | false => rw [e2] at h; cases h
  | false => rw [e] at h; cases h
 ·cases h
def zAF (b n : Nat) (a : AV) (k : Nat -> Option α) : Option α := match a with
 | .vs b' off len n' => bif Nat.beq b' b then (bif Nat.beq n' n then (match off with | 0 => k len | _ + 1 => none) else none) else none
 | _ => none
theorem zu9 {b n : Nat} {a : AV} {k : Nat -> Option α} {x : α} (h : zAF b n a k = some x) : ∃ len, a = .vs b 0 len n /\ k len = some x := by
 unfold zAF at h
 split at h
 ·rename_i b' off len n'
  cases e : Nat.beq b' b with
  | true =>
   rw [e] at h
   simp only [cond_true] at h
   cases e2 : Nat.beq n' n with
   | true =>
    rw [e2] at h
    simp only [cond_true] at h
    split at h
    ·exact ⟨len, by rw [Nat.eq_of_beq_eq_true e, Nat.eq_of_beq_eq_true e2], h⟩
    ·cases h
   | false => rw [e2] at h; cases h
  | false => rw [e] at h; cases h
 ·cases h
def zvP (ks : List Ck) (a : AV) (k : Tp ks -> Option α) : Option α := match a with
 | .agg cs => (match zpB ks cs with | some e => k e | none => none)
 | _ => none
theorem znX {ks : List Ck} {a : AV} {k : Tp ks -> Option α} {x : α} (h : zvP ks a k = some x) : ∃ e, a = .agg (enc ks e) /\ k e = some x := by
 unfold zvP at h
 split at h
 ·split at h
  ·rename_i e he; exact ⟨e, by rw [zeW he], h⟩
  ·cases h
 ·cases h
def zfk {β : Type} (cs : List β) (k : β -> List β -> Option α) : Option α := match cs with
 | x :: r => k x r
 | [] => none
theorem JC {β : Type} {cs : List β} {k : β -> List β -> Option α} {x : α} (h : zfk cs k = some x) : ∃ a r, cs = a :: r /\ k a r = some x := by
 unfold zfk at h
 split at h
 ·exact ⟨_, _, rfl, h⟩
 ·cases h
def zsc {β : Type} (cs : List β) (k : Option α) : Option α := match cs with
 | [] => k
 | _ :: _ => none
theorem zaW {β : Type} {cs : List β} {k : Option α} {x : α} (h : zsc cs k = some x) : cs = [] /\ k = some x := by
 unfold zsc at h
 split at h
 ·exact ⟨rfl, h⟩
 ·cases h
def zp4 (b : Nat) (a : AV) (k : Nat -> Option α) : Option α := match a with
 | .ptr b' o => bif Nat.beq b' b then k o else none
 | _ => none
theorem zp5 {b : Nat} {a : AV} {k : Nat -> Option α} {x : α} (h : zp4 b a k = some x) : ∃ o, a = .ptr b o /\ k o = some x := by
 unfold zp4 at h
 split at h
 ·rename_i b' o
  cases e : Nat.beq b' b with
  | true => rw [e] at h; exact ⟨o, by rw [Nat.eq_of_beq_eq_true e], h⟩
  | false => rw [e] at h; cases h
 ·cases h
def zAz (a : AV) (k : Option α) : Option α := match a with
 | .any => k
 | _ => none
theorem zu3 {a : AV} {k : Option α} {x : α} (h : zAz a k = some x) : a = .any /\ k = some x := by
 unfold zAz at h
 split at h
 ·exact ⟨rfl, h⟩
 ·cases h
def zbN (a : AV) (k : Option α) : Option α := match a with
 | .v .nilFunc => k
 | _ => none
theorem zhE {a : AV} {k : Option α} {x : α} (h : zbN a k = some x) : a = .v .nilFunc /\ k = some x := by
 unfold zbN at h
 split at h
 ·exact ⟨rfl, h⟩
 ·cases h
def zai (a : AV) (k : Option α) : Option α := match a with
 | .v .nilIface => k
 | _ => none
theorem zgr {a : AV} {k : Option α} {x : α} (h : zai a k = some x) : a = .v .nilIface /\ k = some x := by
 unfold zai at h
 split at h
 ·exact ⟨rfl, h⟩
 ·cases h
def zbO (a : AV) (k : Option α) : Option α := match a with
 | .v (.pointer none) => k
 | _ => none
theorem zhF {a : AV} {k : Option α} {x : α} (h : zbO a k = some x) : a = .v (.pointer none) /\ k = some x := by
 unfold zbO at h
 split at h
 ·exact ⟨rfl, h⟩
 ·cases h
def zbM (a : AV) (k : Option α) : Option α := match a with
 | .v (.map none) => k
 | _ => none
theorem zhD {a : AV} {k : Option α} {x : α} (h : zbM a k = some x) : a = .v (.map none) /\ k = some x := by
 unfold zbM at h
 split at h
 ·exact ⟨rfl, h⟩
 ·cases h
def zu2 (a : AV) (k : List AV -> Option α) : Option α := match a with
 | .agg cs => k cs
 | _ => none
theorem zpZ {a : AV} {k : List AV -> Option α} {x : α} (h : zu2 a k = some x) : ∃ cs, a = .agg cs /\ k cs = some x := by
 unfold zu2 at h
 split at h
 ·exact ⟨_, rfl, h⟩
 ·cases h
def zAC (a : AV) (k : List AV -> Option α) : Option α := match a with
 | .ref cs => k cs
 | _ => none
theorem zu6 {a : AV} {k : List AV -> Option α} {x : α} (h : zAC a k = some x) : ∃ cs, a = .ref cs /\ k cs = some x := by
 unfold zAC at h
 split at h
 ·exact ⟨_, rfl, h⟩
 ·cases h
def pFn (f : FuncId) (a : AV) (k : List AV -> List AV -> Option α) : Option α := match a with
 | .fn (.func f') fs bs => bif Nat.beq f' f then k fs bs else none
 | _ => none
theorem zzE {f : FuncId} {a : AV} {k : List AV -> List AV -> Option α} {x : α} (h : pFn f a k = some x) : ∃ fs bs, a = .fn (.func f) fs bs /\ k fs bs = some x := by
 unfold pFn at h
 split at h
 ·rename_i f' fs bs
  cases e : Nat.beq f' f with
  | true => rw [e] at h; exact ⟨fs, bs, by rw [Nat.eq_of_beq_eq_true e], h⟩
  | false => rw [e] at h; cases h
 ·cases h
def pMp (d : MK) (cs : List AV) (k : List (List AV) -> Option α) : Option α := match cs with
 | [.mp d' xs] => if d' = d then k xs else none
 | _ => none
theorem zzG {d : MK} {cs : List AV} {k : List (List AV) -> Option α} {x : α} (h : pMp d cs k = some x) : ∃ xs, cs = [.mp d xs] /\ k xs = some x := by
 unfold pMp at h
 split at h
 ·split at h
  ·rename_i e; subst e; exact ⟨_, rfl, h⟩
  ·cases h
 ·cases h
end
section
open Go.RowKit
structure GamK where
 v : Gam
 K : FuncId -> Bool -> List AV -> List (List AV) -> (α : Type) -> (Ret -> Option α) -> Option α
 eq : ∀ f m args bs (α : Type) (k : Ret -> Option α) (x : α), K f m args bs α k = some x -> ∃ r, v f m args bs = some r /\ k r = some x
variable {α : Type}
def zcG (d : TypeDesc) (x : AV) (k : AV -> Option α) : Option α :=
 match d with
 | .int k0 => (match x with | .v (.int k' n) => if k' = k0 then k (.v (.int k0 n)) else none | _ => none)
 | .bool => (match x with | .v (.bool b) => k (.v (.bool b)) | _ => none)
 | .string => (match x with | .v (.string s) => k (.v (.string s)) | _ => none)
 | .slice _ => (match x with | .list n xs t => k (.list n xs t) | .v (.slice a l c) => k (.v (.slice a l c)) | .vs b off len n => k (.vs b off len n) | _ => none)
 | _ => k x
theorem zcH {d : TypeDesc} {y : AV} {k : AV -> Option α} {x : α} (h : zcG d y k = some x) : ∃ v, ze6 d y = some v /\ k v = some x := by
 unfold zcG at h
 (repeat' split at h) <;> first | (cases h; done) | (refine ⟨_, ?_, h⟩; simp [ze6, *])
def zz7 : List TypeDesc -> List AV -> List AV -> (List AV -> Option α) -> Option α
 | [], _, acc, k => k acc
 | d :: ds, l, acc, k => match l with
  | x :: r => zcG d x λ v => zz7 ds r (acc ++ [v]) k
  | [] => none
theorem zob : ∀ (ds : List TypeDesc) (l acc : List AV) (k : List AV -> Option α) (x : α), zz7 ds l acc k = some x -> ds.length <= l.length /\ k (acc ++ l.take ds.length) = some x
 | [], l, acc, k, x, h => ⟨Nat.zero_le _, by simpa [zz7] using h⟩
 | d :: ds, l, acc, k, x, h => by
  unfold zz7 at h
  split at h
  ·rename_i y r
   obtain ⟨v, h1, h2⟩ := zcH h
   obtain rfl := zad h1
   obtain ⟨q1, q2⟩ := zob ds r _ k x h2
   exact ⟨by simpa using q1, by simpa using q2⟩
  ·cases h
def ldK (T : Tab) (t : TypeId) (cs : List AV) (off : Nat) (k : AV -> Option α) : Option α :=
 match T.u t with
 | some d =>
  if zw d then
   match T.i t, zcU T 12 t with
   | some i, some ds => if i.1 = ds.length /\ 0 < i.1 then zz7 ds (cs.drop off) [] λ vs => k (.agg vs) else none
   | _, _ => none
  else
   match cs[off]? with
   | some x => zcG d x k
   | none => none
 | none => none
theorem zee {T : Tab} {t : TypeId} {cs : List AV} {off : Nat} {k : AV -> Option α} {x : α} (h : ldK T t cs off k = some x) : ∃ v, ld T t cs off = some v /\ k v = some x := by
 unfold ldK at h
 split at h
 ·rename_i d hd
  split at h
  ·rename_i hr
   split at h
   ·rename_i i ds hi hds
    split at h
    ·rename_i hc
     obtain ⟨q1, q2⟩ := zob ds (cs.drop off) [] _ x h
     rw [List.length_drop] at q1
     refine ⟨.agg ((cs.drop off).take i.1), ?_, by rw [hc.1]; simpa using q2⟩
     have : off + i.1 <= cs.length := by
      have := hc.1
      have := hc.2
      omega
     simp only [ld, hd, hr, if_true, hi, this]
    ·cases h
   ·cases h
  ·split at h
   ·rename_i y hy
    obtain ⟨v, h1, h2⟩ := zcH h
    refine ⟨v, ?_, h2⟩; simp [ld, *]
   ·cases h
 ·cases h
def zCD (T : Tab) (d : TypeDesc) (x : AV) (k : AV -> Option α) : Option α :=
 match d with
 | .slice e => (match T.i e with | some i => (match Zf i.1 x with | some xs => k (.list i.1 xs none) | none => none) | none => none)
 | d => zcG d x k
theorem zuy {T : Tab} {d : TypeDesc} {y : AV} {k : AV -> Option α} {x : α} (h : zCD T d y k = some x) : ∃ v, datC T d y = some v /\ k v = some x := by
 unfold zCD at h
 split at h
 ·(repeat' split at h) <;> first | (cases h; done) | (refine ⟨_, ?_, h⟩; simp [datC, *])
 ·rename_i hne
  obtain ⟨v, h1, h2⟩ := zcH h
  refine ⟨v, ?_, h2⟩
  unfold datC
  split
  ·exact absurd rfl (hne _)
  ·exact h1
def zAu (T : Tab) (t : TypeId) (cs : List AV) (off : Nat) (k : AV -> Option α) : Option α :=
 match T.u t with
 | some d =>
  if zw d then
   match T.i t, zcU T 12 t with
   | some i, some ds => if i.1 = ds.length /\ 0 < i.1 then (match zi0 T ds with | some ks => (match dec ks (cs.drop off) with | some e => k (.agg (enc ks e)) | none => none) | none => none) else none
   | _, _ => none
  else
   match cs[off]? with
   | some x => zCD T d x k
   | none => none
 | none => none
theorem znN {T : Tab} {t : TypeId} {cs : List AV} {off : Nat} {k : AV -> Option α} {x : α} (h : zAu T t cs off k = some x) : ∃ v, ldD T t cs off = some v /\ k v = some x := by
 unfold zAu at h
 split at h
 ·rename_i d hd
  split at h
  ·rename_i hr
   split at h
   ·rename_i i ds hi hds
    split at h
    ·rename_i hc
     split at h
     ·rename_i ks hks
      split at h
      ·rename_i e he
       refine ⟨.agg (enc ks e), ?_, h⟩
       simp only [ldD, hd, hr, if_true, hi, hds]
       rw [if_pos hc, ziL hks he]
      ·cases h
     ·cases h
    ·cases h
   ·cases h
  ·rename_i hr
   split at h
   ·rename_i y hy
    obtain ⟨v, h1, h2⟩ := zuy h
    exact ⟨v, by simp only [ldD, hd, hr, if_false, hy, h1, Bool.false_eq_true], h2⟩
   ·cases h
 ·cases h
def zvt (T : Tab) (s : AS) (op : Op) (k : AV -> Option α) : Option α :=
 match op with
 | .load t x =>
  (match s.ev x with
  | .ptr b off => (match s.cx b with | some cs => (match s.tk (vm b) with | some _ => zAu T t cs off k | none => ldK T t cs off k) | none => none)
  | .ref cs => zAu T t cs 0 k
  | _ => none)
 | .indexAddr t x ix =>
  (match T.u t, s.ev ix with
  | some (.slice e), .v (.int kk i) =>
   (match T.i e, s.ev x with
   | some inf, .list n xs tk =>
    if inf.1 = n then
     if 0 <= i then (match xs[i.toNat]? with | some c => k (.ref c) | none => none) else none
    else none
   | some inf, .vs b off len n => if inf.1 = n then (if 0 <= i /\ i < len then k (.ptr b ((off + i.toNat) * inf.1)) else none) else none
   | _, _ => none)
  | some (.array len e), .v (.int kk i) =>
   (match T.i e, s.ev x with
   | some inf, .ptr b off => if 0 <= i /\ i < len then k (.ptr b (off + i.toNat * inf.1)) else none
   | some inf, .ref cs => if 0 <= i /\ i < len then k (.ref (cs.drop (i.toNat * inf.1))) else none
   | _, _ => none)
  | _, _ => none)
 | .field t x f =>
  (match T.u t with
  | some (.struct fs) =>
   (match fs[f]?, s.ev x with
   | some fd, .agg cs => ldK T fd.type cs fd.offset k
   | _, _ => none)
  | _ => none)
 | .binOp op t x y _ =>
  (match op, s.ev x, s.ev y with
  | .quo, .v (.int k0 a), .v (.int k' b) => if k0 = k' then (if b = 0 then none else k (.v (.int k0 (k0.wrap (a.tdiv b))))) else none
  | .rem, .v (.int k0 a), .v (.int k' b) => if k0 = k' then (if b = 0 then none else k (.v (.int k0 (a.tmod b)))) else none
  | .add, .v (.string a), .v (.string b) => if a.size + b.size <= 9223372036854775807 then k (.v (.string (a ++ b))) else none
  | .add, .v (.int k0 a), .v (.int k' b) => if k0 = k' then k (.v (.int k0 (k0.wrap (a + b)))) else none
  | .shl, .v (.int k0 a), .v (.int k' b) => if b < 0 then none else k (.v (.int k0 (shL k0 a b)))
  | .shr, .v (.int k0 a), .v (.int k' b) => if b < 0 then none else k (.v (.int k0 (shR k0 a b)))
  | _, _, _ => none)
 | .index t x ix =>
  (match T.u t, s.ev x, s.ev ix with
  | some .string, .v (.string b), .v (.int kk i) => if 0 <= i then (match b[i.toNat]? with | some c => k (.v (.int .u8 c.toNat)) | none => none) else none
  | some (.array len e), .agg cs, .v (.int kk i) => if 0 <= i /\ i < len then (match T.i e with | some inf => ldK T e cs (i.toNat * inf.1) k | none => none) else none
  | _, _, _ => none)
 | .slice t x lo hi none =>
  (match T.u t, s.ev x with
  | some (.slice e), .list n xs tk =>
   (match T.i e with
   | some inf =>
    if inf.1 = n then
     (match lo.map s.ev, hi.map s.ev with
     | none, none => k (.list n xs tk)
     | some (.v (.int _ l)), none => if 0 <= l /\ l <= xs.length then k (.list n (xs.drop l.toNat) tk) else none
     | none, some (.v (.int _ h)) => if 0 <= h /\ h <= xs.length then k (.list n (xs.take h.toNat) none) else none
     | some (.v (.int _ l)), some (.v (.int _ h)) => if 0 <= l /\ l <= h /\ h <= xs.length then k (.list n ((xs.take h.toNat).drop l.toNat) none) else none
     | _, _ => none)
    else none
   | none => none)
  | some (.slice e), .vs b off len n =>
   (match T.i e with
   | some inf =>
    if inf.1 = n then
     (match lo.map s.ev, hi.map s.ev with
     | none, none => k (.vs b off len n)
     | some (.v (.int _ l)), none => if 0 <= l /\ l <= len then k (.vs b (off + l.toNat) (len - l.toNat) n) else none
     | none, some (.v (.int _ h)) => if 0 <= h /\ h <= len then k (.vs b off h.toNat n) else none
     | some (.v (.int _ l)), some (.v (.int _ h)) => if 0 <= l /\ l <= h /\ h <= len then k (.vs b (off + l.toNat) (h.toNat - l.toNat) n) else none
     | _, _ => none)
    else none
   | none => none)
  | some .string, .v (.string b) =>
   (match lo.map s.ev, hi.map s.ev with
   | none, none => k (.v (.string (b.extract 0 b.size)))
   | some (.v (.int _ l)), none => if 0 <= l /\ l <= b.size then k (.v (.string (b.extract l.toNat b.size))) else none
   | none, some (.v (.int _ h)) => if 0 <= h /\ h <= b.size then k (.v (.string (b.extract 0 h.toNat))) else none
   | some (.v (.int _ l)), some (.v (.int _ h)) => if 0 <= l /\ l <= h /\ h <= b.size then k (.v (.string (b.extract l.toNat h.toNat))) else none
   | _, _ => none)
  | _, _ => none)
 | op => (match zn T s op with | some v => k v | none => none)
theorem zqs {T : Tab} {s : AS} {op : Op} {k : AV -> Option α} {x : α} (h : zvt T s op k = some x) : ∃ v, zn T s op = some v /\ k v = some x := by
 unfold zvt at h
 split at h
 ·split at h
  ·split at h
   ·split at h
    ·obtain ⟨v, h1, h2⟩ := znN h
     refine ⟨v, ?_, h2⟩; simp [zn, *]
    ·obtain ⟨v, h1, h2⟩ := zee h
     refine ⟨v, ?_, h2⟩; simp [zn, *]
   ·cases h
  ·obtain ⟨v, h1, h2⟩ := znN h
   refine ⟨v, ?_, h2⟩; simp [zn, *]
  ·cases h
 ·(repeat' split at h) <;> first | (cases h; done) | (obtain ⟨v, h1, h2⟩ := zee h; refine ⟨v, ?_, h2⟩; simp [zn, *]; done) | (refine ⟨_, ?_, h⟩; first | (simp [zn, *]; done) | (simp only [zn, *, if_true]))
 ·split at h
  ·split at h
   ·obtain ⟨v, h1, h2⟩ := zee h
    refine ⟨v, ?_, h2⟩; simp [zn, *]
   ·cases h
  ·cases h
 ·(repeat' split at h) <;> first | (cases h; done) | (obtain ⟨v, h1, h2⟩ := zee h; refine ⟨v, ?_, h2⟩; simp [zn, *]; done) | (refine ⟨_, ?_, h⟩; first | (simp [zn, *]; done) | (simp only [zn, *, if_true]))
 ·(repeat' split at h) <;> first | (cases h; done) | (obtain ⟨v, h1, h2⟩ := zee h; refine ⟨v, ?_, h2⟩; simp [zn, *]; done) | (refine ⟨_, ?_, h⟩; first | (simp [zn, *]; done) | (simp only [zn, *, if_true]))
 ·(repeat' split at h) <;> first | (cases h; done) | (obtain ⟨v, h1, h2⟩ := zee h; refine ⟨v, ?_, h2⟩; simp [zn, *]; done) | (refine ⟨_, ?_, h⟩; first | (simp [zn, *]; done) | (simp only [zn, *, if_true]))
 ·split at h
  ·rename_i v hv; exact ⟨v, hv, h⟩
  ·cases h
def zeI (s : AS) (d : Nat) (i : Nat × Nat) (x : AV) (ys : List (List AV)) (k : List Wr -> Option α) : Option α :=
 match s.bx d, s.tk (vk d) with
 | none, none =>
  if s.nin <= d then
   (match x with
   | .v z => (match z with
    | .slice none 0 0 => if ys.length * i.2 <= zd then k [.box d (some ys.flatten), .tok (vk d) false, .tok (vm d) false, .env d (.vs d 0 ys.length i.1)] else none
    | _ => none)
   | .vs b off len n =>
    if off = 0 /\ n = i.1 /\ s.nin <= b /\ b ≠ d then
     (match s.bx b, s.tk (vk b) with
     | some cs, some _ => if len * n <= cs.length /\ (len + ys.length) * i.2 <= zd then k [.box b none, .box d (some (cs.take (len * n) ++ ys.flatten)), .tok (vk d) false, .tok (vm d) false, .env d (.vs d 0 (len + ys.length) i.1)] else none
     | _, _ => none)
    else none
   | _ => none)
  else none
 | _, _ => none
theorem zhd {s : AS} {d : Nat} {i : Nat × Nat} {y : AV} {ys : List (List AV)} {k : List Wr -> Option α} {x : α} (h : zeI s d i y ys k = some x) : ∃ W, jG s d i y ys = some W /\ k W = some x := by
 unfold zeI at h
 (repeat' split at h) <;> first | (cases h; done) | (refine ⟨_, ?_, h⟩; simp [jG, zX, *]; done) | (refine ⟨_, ?_, h⟩; simp_all [jG, zX])
def zhf (T : Tab) (s : AS) (d : Nat) (t : TypeId) (x y : Operand) (k : List Wr -> Option α) : Option α :=
 match T.u t with
 | some (.slice e) =>
  (match T.i e, T.z e, s.tk (tD d 0) with
  | some i, some z, none =>
   if z.length = i.1 /\ 0 < i.1 /\ 0 < i.2 then
    (match s.ev y with
    | .list m ys _ =>
     if m = i.1 then
      bif T.bm d then zeI s d i (s.ev x) ys k else
      (match s.ev x with
      | .v (.slice none 0 0) => if ys.length * i.2 <= zd then k [.tok (tD d 0) true, .env d (.list i.1 ys (some (tD d 0)))] else none
      | .list n xs (some kk) =>
       if n = i.1 then
        (match s.tk kk with
        | some true => if (xs.length + ys.length) * i.2 <= zd then k [.tok kk false, .tok (tD d 0) true, .env d (.list i.1 (xs ++ ys) (some (tD d 0)))] else none
        | _ => none)
       else none
      | _ => none)
     else none
    | _ => none)
   else none
  | _, _, _ => none)
 | _ => none
theorem zj1 {T : Tab} {s : AS} {d : Nat} {t : TypeId} {y z : Operand} {k : List Wr -> Option α} {x : α} (h : zhf T s d t y z k = some x) : ∃ W, ZY T s d t y z = some W /\ k W = some x := by
 unfold zhf at h
 split at h
 ·rename_i e hu
  split at h
  ·rename_i i zz hi hz hk
   split at h
   ·rename_i hc
    split at h
    ·rename_i m ys tk hz2
     split at h
     ·rename_i hm
      cases hb : T.bm d with
      | true =>
       rw [hb] at h
       simp only [cond_true] at h
       obtain ⟨W, h1, h2⟩ := zhd h
       exact ⟨W, by simp only [ZY, hu, hi, hz, hk, hc, hz2, hm, hb, if_true, cond_true, and_self]; exact h1, h2⟩
      | false =>
       rw [hb] at h
       simp only [cond_false] at h
       (repeat' split at h) <;> first | (cases h; done) | (refine ⟨_, ?_, h⟩; simp [ZY, *])
     ·cases h
    ·cases h
   ·cases h
  ·cases h
 ·cases h
def zuo (Γ : GamK) (s : AS) (dst : Option Nat) (m : Bool) (fv : Operand) (args : List Operand) (k : List Wr -> Option α) : Option α :=
 match s.ev fv with
 | .fn (.func f) first captured =>
  (match jl s (idx (JA s (first ++ args.map s.ev ++ captured))) 0 (JA s (first ++ args.map s.ev ++ captured)) with
  | some bs =>
   Γ.K f m (jV s (idx (JA s (first ++ args.map s.ev ++ captured))) 0 (first ++ args.map s.ev ++ captured)) bs α λ r =>
    (match zbu s (JA s (first ++ args.map s.ev ++ captured)) dst (zaN s 0 (first ++ args.map s.ev ++ captured) ++ jv s 0 (JA s (first ++ args.map s.ev ++ captured))) (bif zpI f then r else r.nofm) with
    | some W => k W
    | none => none)
  | none => none)
 | _ => none
theorem zps {Γ : GamK} {s : AS} {dst : Option Nat} {m : Bool} {fv : Operand} {args : List Operand} {k : List Wr -> Option α} {x : α} (h : zuo Γ s dst m fv args k = some x) : ∃ W, zd8 Γ.v s dst m fv args = some W /\ k W = some x := by
 unfold zuo at h
 split at h
 ·rename_i f first captured hf
  split at h
  ·rename_i bs hbs
   obtain ⟨r, h1, h2⟩ := Γ.eq _ _ _ _ _ _ _ h
   split at h2
   ·rename_i W hW
    refine ⟨_, ?_, h2⟩
    unfold zd8
    simp only [hf, hbs, h1, hW]
   ·cases h2
  ·cases h
 ·cases h
def zuO (T : Tab) (s : AS) (d : Nat) (t : TypeId) (l c : Operand) (k : List Wr -> Option α) : Option α :=
 match T.u t with
 | some (.slice e) =>
  (match T.i e, T.z e, s.bx d, s.tk (vk d) with
  | some i, some z, none, none =>
   if z.length = i.1 /\ 0 < i.1 /\ 0 < i.2 /\ s.nin <= d then
    (match s.ev l, s.ev c with
    | .v (.int _ ln), .v (.int _ cp) => if 0 <= ln /\ ln <= cp /\ cp.toNat * i.2 <= zd then (bif T.bm d then (match s.tk (tD d 0) with | none => k [.box d (some (zdn z ln.toNat)), .tok (vk d) false, .tok (vm d) false, .box d none, .tok (tD d 0) true, .env d (.list i.1 (zp ((zdn z ln.toNat).take (ln.toNat * i.1)) i.1 ln.toNat) (some (tD d 0)))] | some _ => none) else k [.box d (some (zdn z ln.toNat)), .tok (vk d) false, .tok (vm d) false, .env d (.vs d 0 ln.toNat i.1)]) else none
    | _, _ => none)
   else none
  | _, _, _, _ => none)
 | _ => none
theorem zpT {T : Tab} {s : AS} {d : Nat} {t : TypeId} {l c : Operand} {k : List Wr -> Option α} {x : α} (h : zuO T s d t l c k = some x) : ∃ W, zef T s d t l c = some W /\ k W = some x := by
 unfold zuO at h
 cases hbm : T.bm d <;> simp only [hbm, cond_true, cond_false] at h <;> (repeat' split at h) <;> first | (cases h; done) | (refine ⟨_, ?_, h⟩; simp [zef, *])
def zeU (s : AS) (n len : Nat) (y : AV) (k : Nat × List AV -> Option α) : Option α :=
 match y with
 | .list m ys _ => if m = n then k (ys.length, (ys.take (Nat.min ys.length len)).flatten) else none
 | .vs b2 off2 len2 m =>
  if m = n then
   (match s.bx b2 with
   | some cs2 => if (off2 + len2) * n <= cs2.length then k (len2, (cs2.drop (off2 * n)).take (Nat.min len2 len * n)) else none
   | none => none)
  else none
 | _ => none
theorem zhk {s : AS} {n len : Nat} {y : AV} {k : Nat × List AV -> Option α} {x : α} (h : zeU s n len y k = some x) : ∃ q, Jd s n len y = some q /\ k q = some x := by
 unfold zeU at h
 (repeat' split at h) <;> first | (cases h; done) | (refine ⟨_, ?_, h⟩; simp [Jd, *])
def zuw (T : Tab) (s : AS) (dst : Option Nat) (t : TypeId) (x y : Operand) (k : List Wr -> Option α) : Option α :=
 match s.ev x with
 | .vs b off len n =>
  (match T.u t with
  | some (.slice e) =>
  (match T.i e with
  | some i =>
   zeU s n len (s.ev y) λ q =>
   if n = i.1 /\ 0 < i.1 then
    (match s.bx b with
    | some cs => if (off + len) * n <= cs.length then k (.box b (some (splice cs (off * n) q.2)) :: (match dst with | some d => [.env d (.v (.int .i64 (Nat.min q.1 len : Nat)))] | none => [])) else none
    | none => none)
   else none
  | _ => none)
  | _ => none)
 | _ => none
theorem zpz {T : Tab} {s : AS} {d : Option Nat} {t : TypeId} {y z : Operand} {k : List Wr -> Option α} {x : α} (h : zuw T s d t y z k = some x) : ∃ W, zbg T s d t y z = some W /\ k W = some x := by
 unfold zuw at h
 split at h
 ·rename_i b off len n hy
  split at h
  ·rename_i e hu
   split at h
   ·rename_i i hi
    obtain ⟨q, h1, h2⟩ := zhk h
    split at h2
    ·rename_i hc
     split at h2
     ·rename_i cs hcs
      split at h2
      ·rename_i hf
       refine ⟨_, ?_, h2⟩
       obtain ⟨rfl, hc2⟩ := hc
       unfold zbg
       simp only [hy, hu, hi, h1, hcs, hc2, hf, and_self, if_true]
       rfl
      ·cases h2
     ·cases h2
    ·cases h2
   ·cases h
  ·cases h
 ·cases h
def zCz (T : Tab) (s : AS) (o : Oper) (op : BinOp) (t : TypeId) (x y : Operand) (k : AV -> Option α) : Option α :=
 match op, s.ev x, s.ev y with
 | .eql, .list _ xs _, .v (.slice none 0 0) =>
  (match T.u t with
  | some (.slice _) => (match xs with | [] => k .ub | _ :: _ => k (.v (.bool false)))
  | _ => none)
 | .neq, .list _ xs _, .v (.slice none 0 0) =>
  (match T.u t with
  | some (.slice _) => (match xs with | [] => k .ub | _ :: _ => k (.v (.bool true)))
  | _ => none)
 | _, _, _ => (match zoB T s o op t x y with | some v => k v | none => none)
theorem zum {T : Tab} {s : AS} {o : Oper} {op : BinOp} {t : TypeId} {y z : Operand} {k : AV -> Option α} {x : α} (h : zCz T s o op t y z k = some x) : ∃ v, zoB T s o op t y z = some v /\ k v = some x := by
 unfold zCz at h
 split at h
 ·split at h
  ·split at h
   ·refine ⟨_, ?_, h⟩; simp [zoB, zhn, *]
   ·refine ⟨_, ?_, h⟩; simp [zoB, zhn, *]
  ·cases h
 ·split at h
  ·split at h
   ·refine ⟨_, ?_, h⟩; simp [zoB, zhn, *]
   ·refine ⟨_, ?_, h⟩; simp [zoB, zhn, *]
  ·cases h
 ·split at h
  ·rename_i v hv; exact ⟨v, hv, h⟩
  ·cases h
def zor (T : Tab) (s : AS) (t : TypeId) (x y : Operand) (k : List Wr -> Option α) : Option α :=
 match s.ev x, T.i t with
 | .ptr b off, some i =>
  (match s.cx b, cellsOf (s.ev y) with
  | some cs, some new => if new.length = i.1 then (if off + new.length <= cs.length then k [.box b (some (splice cs off new))] else none) else none
  | _, _ => none)
 | _, _ => none
theorem zos {T : Tab} {s : AS} {t : TypeId} {y z : Operand} {k : List Wr -> Option α} {x : α} (h : zor T s t y z k = some x) : ∃ W, zaX T s t y z = some W /\ k W = some x := by
 unfold zor at h
 split at h
 ·rename_i b off i h1 h2
  split at h
  ·rename_i cs new h3 h4
   split at h
   ·rename_i h5
    split at h
    ·rename_i h6
     refine ⟨_, ?_, h⟩
     unfold zaX
     rw [h1, h2]
     simp only
     rw [h3, h4]
     simp only
     rw [if_pos h5, if_pos h6]
    ·cases h
   ·cases h
  ·cases h
 ·cases h
def zuv (T : Tab) (s : AS) (d : Option Nat) (src dst : TypeId) (x : Operand) (k : List Wr -> Option α) : Option α :=
 match T.u src, T.u dst, s.ev x with
 | some .string, some (.slice e), .v (.string b) =>
  (match T.u e, d with
  | some (.int .u8), some d => (match s.tk (tD d 0) with | none => k [.tok (tD d 0) true, .env d (.list 1 (za9 b) (some (tD d 0)))] | _ => none)
  | _, _ => none)
 | some (.slice e), some .string, .list n xs _ => (match T.u e with | some (.int .u8) => if n = 1 then (match zgq xs with | some ns => k (AS.out d (.v (.string (strOfNums ns)))) | none => none) else none | _ => none)
 | _, _, _ => (match zku d (zn T s (.convert src dst x)) with | some W => k W | none => none)
theorem zpy {T : Tab} {s : AS} {d : Option Nat} {src dst : TypeId} {y : Operand} {k : List Wr -> Option α} {x : α} (h : zuv T s d src dst y k = some x) : ∃ W, zbf T s d src dst y = some W /\ k W = some x := by
 unfold zuv at h
 split at h
 ·rename_i e b h1 h2 h3
  split at h
  ·rename_i d' h4
   split at h
   ·rename_i h5
    refine ⟨_, ?_, h⟩
    simp [zbf, zn, zku, zcw, h1, h2, h3, h4, h5]
   ·cases h
  ·cases h
 ·rename_i e n xs tk h1 h2 h3
  split at h
  ·rename_i h4
   split at h
   ·rename_i h5
    split at h
    ·rename_i ns h6
     refine ⟨_, ?_, h⟩
     simp [zbf, zn, zku, h1, h2, h3, h4, h5, h6]
    ·cases h
   ·cases h
  ·cases h
 ·split at h
  ·rename_i W hW
   exact ⟨W, by unfold zbf; rw [hW], h⟩
  ·cases h
def znj (T : Tab) (s : AS) (t : TypeId) (x : Operand) (k : List Wr -> Option α) : Option α :=
 match s.ev x with
 | .vs b off len n =>
  (match T.u t with
  | some (.slice e) =>
   (match T.i e, T.z e, s.bx b with
   | some i, some z, some cs => if n = i.1 /\ 0 < i.1 /\ z.length = i.1 then (if (off + len) * n <= cs.length then k [.box b (some (splice cs (off * n) (zdn z len)))] else none) else none
   | _, _, _ => none)
  | _ => none)
 | _ => none
theorem znk {T : Tab} {s : AS} {t : TypeId} {y : Operand} {k : List Wr -> Option α} {x : α} (h : znj T s t y k = some x) : ∃ W, Jb T s t y = some W /\ k W = some x := by
 unfold znj at h
 split at h
 ·rename_i b off len n h1
  split at h
  ·rename_i e h2
   split at h
   ·rename_i i z cs h3 h4 h5
    split at h
    ·rename_i h6
     split at h
     ·rename_i h7
      refine ⟨_, ?_, h⟩
      unfold Jb
      rw [h1]
      simp only
      rw [h2]
      simp only
      rw [h3, h4, h5]
      simp only
      rw [if_pos h6, if_pos h7]
     ·cases h
    ·cases h
   ·cases h
  ·cases h
 ·cases h
def zDs (d : Option Nat) (k : List Wr -> Option α) (v : AV) : Option α := k (AS.out d v)
def zop (T : Tab) (Γ : GamK) (o : Oper) (s : AS) (k : List Wr -> Option α) : Option α :=
 if zJ o.op then zvt T s o.op (zDs o.dst k) else
 match o.op, o.dst with
 | .call c, d =>
  (match c.callee with
  | .value f => zuo Γ s d (match d with | some d => T.bm d | none => false) f c.args.toList k
  | .builtin .append =>
   (match c.args.toList, c.argTypes.toList, d with
   | [x, y], [t, t'], some d => if t = t' then zhf T s d t x y k else none
   | _, _, _ => none)
  | .builtin .copy =>
   (match c.args.toList, c.argTypes.toList with
   | [x, y], [t, t'] => if t = t' then zuw T s d t x y k else none
   | _, _ => none)
  | .builtin .clear =>
   (match c.args.toList, c.argTypes.toList, d with
   | [x], [t], none => znj T s t x k
   | _, _, _ => none)
  | _ => (match Zd T Γ.v o s with | some W => k W | none => none))
 | .makeSlice t l c, some d => zuO T s d t l c k
 | .store t x y, none => zor T s t x y k
 | .binOp op t x y _, d => zCz T s o op t x y (zDs d k)
 | .convert src dst x, d => zuv T s d src dst x k
 | _, _ => (match Zd T Γ.v o s with | some W => k W | none => none)
theorem zoq {T : Tab} {Γ : GamK} {o : Oper} {s : AS} {k : List Wr -> Option α} {x : α} (h : zop T Γ o s k = some x) : ∃ W, Zd T Γ.v o s = some W /\ k W = some x := by
 unfold zop at h
 split at h
 ·rename_i hsp
  obtain ⟨v, h1, h2⟩ := zqs h
  refine ⟨_, ?_, h2⟩
  unfold Zd
  rw [if_pos hsp, h1]
  rfl
 ·rename_i hsp
  have plain : (match Zd T Γ.v o s with | some W => k W | none => none) = some x -> ∃ W, Zd T Γ.v o s = some W /\ k W = some x := λ h => by
   split at h
   ·rename_i W hW; exact ⟨W, hW, h⟩
   ·cases h
  split at h
  ·rename_i c ho
   have e : Zd T Γ.v o s = Zp T Γ.v o s c := by unfold Zd; rw [if_neg hsp, ho]
   split at h
   ·rename_i f hc
    obtain ⟨W, h1, h2⟩ := zps h
    exact ⟨W, by rw [e]; unfold Zp; rw [hc]; exact h1, h2⟩
   ·rename_i hc
    split at h
    ·rename_i y z t t' d' e1 e2 hd
     split at h
     ·rename_i ht
      obtain ⟨W, h1, h2⟩ := zj1 h
      exact ⟨W, by rw [e]; unfold Zp; rw [hc, e1, e2, hd]; simp only [ht, if_true]; rw [<- ht]; exact h1, h2⟩
     ·cases h
    ·cases h
   ·rename_i hc
    split at h
    ·rename_i y z t t' e1 e2
     split at h
     ·rename_i ht
      obtain ⟨W, h1, h2⟩ := zpz h
      exact ⟨W, by rw [e]; unfold Zp; rw [hc, e1, e2]; simp only [ht, if_true]; rw [<- ht]; exact h1, h2⟩
     ·cases h
    ·cases h
   ·rename_i hc
    split at h
    ·rename_i y t e1 e2 hd
     obtain ⟨W, h1, h2⟩ := znk h
     exact ⟨W, by rw [e]; unfold Zp; rw [hc, e1, e2, hd]; exact h1, h2⟩
    ·cases h
   ·exact plain h
  ·rename_i t l c d ho hd
   obtain ⟨W, h1, h2⟩ := zpT h
   exact ⟨W, by unfold Zd; rw [if_neg hsp, ho, hd]; exact h1, h2⟩
  ·rename_i t y z ho hd
   obtain ⟨W, h1, h2⟩ := zos h
   exact ⟨W, by unfold Zd; rw [if_neg hsp, ho, hd]; exact h1, h2⟩
  ·rename_i op t y z t2 ho
   obtain ⟨v, h1, h2⟩ := zum h
   exact ⟨_, by unfold Zd; rw [if_neg hsp, ho]; simp only [h1, zku], h2⟩
  ·rename_i src dst y ho
   obtain ⟨W, h1, h2⟩ := zpy h
   exact ⟨W, by unfold Zd; rw [if_neg hsp, ho]; exact h1, h2⟩
  ·exact plain h
def zvy (T : Tab) (s : AS) (d : Nat) (t : TypeId) (x : Operand) (k : List Wr -> Option α) : Option α :=
 match s.ev x, T.u t with
 | .ptr b off, some (.slice e) =>
  (match s.cx b, s.fm, T.i e, s.tk (tD d 0) with
  | some cs, some (b', j, N), some i, none =>
   bif Nat.beq b' b && JB s.tok then
    (match cs[off]? with
    | some c => (match c with
     | .list n xs (some q) => if n = i.1 /\ q = TOB + off /\ j <= off /\ off < N then k [.fm (some (b, off + 1, N)), .tok (tD d 0) true, .env d (.list i.1 xs (some (tD d 0)))] else none
     | _ => none)
    | none => none)
   else none
  | _, _, _, _ => none)
 | _, _ => none
theorem zqz {T : Tab} {s : AS} {d : Nat} {t : TypeId} {y : Operand} {k : List Wr -> Option α} {x : α} (h : zvy T s d t y k = some x) : ∃ W, zbp T s d t y = some W /\ k W = some x := by
 unfold zvy at h
 split at h
 ·rename_i b off e h1 h2
  split at h
  ·rename_i cs b' j N i h3 h4 h5 h6
   cases hb : (Nat.beq b' b && JB s.tok) with
   | false => rw [hb] at h; cases h
   | true =>
   rw [hb] at h
   simp only [cond_true] at h
   split at h
   ·rename_i c h7
    split at h
    ·rename_i n xs q
     split at h
     ·rename_i h8
      refine ⟨_, ?_, h⟩
      unfold zbp
      rw [h1, h2]
      simp only
      rw [h3, h4, h5, h6]
      simp only
      rw [hb]
      simp only [cond_true]
      rw [h7]
      simp only
      rw [if_pos h8]
     ·cases h
    ·cases h
   ·cases h
  ·cases h
 ·cases h
def zeK (T : Tab) (s : AS) (d : Nat) (t : TypeId) (x y : Operand) (k : List Wr -> Option α) : Option α :=
 match T.u t with
 | some (.slice e) =>
  (match T.i e, T.z e with
  | some i, some z =>
   if z.length = i.1 /\ i.1 = 1 /\ 0 < i.2 then
    (match zbh T s d (s.ev y) with
    | some p =>
     bif Nat.beq p.2.2 (vm d) || Nat.ble TOB (vm d) then none else
     (match s.ev x with
     | .vs b off len n =>
      (match s.fm, s.bx b, s.bx d, s.tk (vk d), s.tk (vk b) with
      | some (b', j, N), some cs, none, none, some _ =>
       bif Nat.beq b' b && (Nat.beq off 0 && (Nat.beq n i.1 && (Nat.ble s.nin b && (!(Nat.beq b d) && Nat.ble s.nin d)))) then
        (if (N = len /\ j <= N) /\ len * n <= cs.length /\ (len + 1) * i.2 <= zd then k ([.box b none, .box d (some (cs.take (len * n) ++ [.list p.1 p.2.1 (some p.2.2)])), .tok (vk d) false, .tok (vm d) false, .env d (.vs d 0 (len + 1) i.1)] ++ [.tok p.2.2 false, .fm (some (d, j, N + 1)), .box d (some (cs.take (len * n) ++ [.list p.1 p.2.1 (some (TOB + N))]))]) else none)
       else none
      | _, _, _, _, _ => none)
     | X => (match zaR s X with
      | some q => (match zX s d i X 1 [.list p.1 p.2.1 (some p.2.2)] with
       | some W => k (W ++ [.tok p.2.2 false, .fm (some (d, q.1, q.2.1 + 1)), .box d (some (q.2.2 ++ [.list p.1 p.2.1 (some (TOB + q.2.1))]))])
       | none => none)
      | none => none))
    | none => none)
   else none
  | _, _ => none)
 | _ => none
theorem zhe {T : Tab} {s : AS} {d : Nat} {t : TypeId} {x0 y : Operand} {k : List Wr -> Option α} {x : α} (h : zeK T s d t x0 y k = some x) : ∃ W, j8 T s d t x0 y = some W /\ k W = some x := by
 unfold zeK at h
 unfold j8
 split at h
 ·rename_i e h1
  rw [h1]
  simp only
  split at h
  ·rename_i i z h2 h3
   rw [h2, h3]
   simp only
   split at h
   ·rename_i h4
    rw [if_pos h4]
    split at h
    ·rename_i p h5
     rw [h5]
     cases hbb : (Nat.beq p.2.2 (vm d) || Nat.ble TOB (vm d)) with
     | true => rw [hbb] at h; cases h
     | false =>
     rw [hbb] at h
     simp only [cond_false] at h |-
     split at h
     ·rename_i b off len n h6
      rw [h6]
      split at h
      ·rename_i b' j N cs mk h7 h8 h9 h10 h11
       cases hc : (Nat.beq b' b && (Nat.beq off 0 && (Nat.beq n i.1 && (Nat.ble s.nin b && (!(Nat.beq b d) && Nat.ble s.nin d))))) with
       | false => rw [hc] at h; cases h
       | true =>
       rw [hc] at h
       simp only [cond_true] at h
       simp only [Bool.and_eq_true] at hc
       obtain ⟨c1, c2, c3, c4, c5, c6⟩ := hc
       split at h
       ·rename_i h12
        obtain ⟨q1, q2, q3⟩ := h12
        obtain rfl := Nat.eq_of_beq_eq_true c2
        have c3' := Nat.eq_of_beq_eq_true c3
        have c4' := Nat.le_of_ble_eq_true c4
        have c6' := Nat.le_of_ble_eq_true c6
        have c5' : b ≠ d := λ e => by rw [e] at c5; simp at c5
        have e1 : zaR s (.vs b 0 len n) = some (j, N, cs.take (len * n)) := by
         unfold zaR
         simp only
         rw [h7, h8]
         simp only
         rw [c1]
         simp only [cond_true]
         rw [if_pos q1]
        have e2 : zX s d i (.vs b 0 len n) 1 [.list p.1 p.2.1 (some p.2.2)] = some [.box b none, .box d (some (cs.take (len * n) ++ [.list p.1 p.2.1 (some p.2.2)])), .tok (vk d) false, .tok (vm d) false, .env d (.vs d 0 (len + 1) i.1)] := by
         unfold zX
         rw [h9, h10]
         simp only
         rw [if_pos c6', if_pos ⟨trivial, c3', c4', c5'⟩, h8, h11]
         simp only
         rw [if_pos ⟨q2, q3⟩]
        rw [e1]
        simp only
        rw [e2]
        exact ⟨_, by rw [hbb]; rfl, h⟩
       ·cases h
      ·cases h
     ·split at h
      ·rename_i q h6
       rw [h6]
       simp only
       split at h
       ·rename_i W h7
        rw [h7]
        exact ⟨_, by rw [hbb]; rfl, h⟩
       ·cases h
      ·cases h
    ·cases h
   ·cases h
  ·cases h
 ·cases h
def zc7 (T : Tab) (Γ : GamK) (o : Oper) (s : AS) (k : List Wr -> Option α) : Option α := match zqA T o with
 | some p => zvy T s p.1 p.2.1 p.2.2 k
 | none => (match zhg T s o with
  | some p => zeK T s p.1 p.2.1 p.2.2.1 p.2.2.2 k
  | none => zop T Γ o s k)
theorem zft {T : Tab} {Γ : GamK} {o : Oper} {s : AS} {k : List Wr -> Option α} {x : α} (h : zc7 T Γ o s k = some x) : ∃ W, Jr T Γ.v o s = some W /\ k W = some x := by
 unfold zc7 at h
 unfold Jr
 split at h
 ·rename_i p hp; (try rw [hp]); exact zqz h
 ·rename_i hp
  try rw [hp]
  try simp only
  split at h
  ·rename_i p hp2; (try rw [hp2]); exact zhe h
  ·rename_i hp2; (try rw [hp2]); exact zoq h
end
section
open Go.RowKit
def AS.known (s : AS) (t : Nat) (b : Bool) : AS := s.ap (.env t (.v (.bool b)))
def AS.knownO (s : AS) (x : Operand) (b : Bool) : AS := match x with
 | .tmp t => s.known t b
 | _ => s
def zhL (T : Tab) (Γ : GamK) (ops : List Oper) {α : Type} (K : AS -> Trc -> Option α) : List Oper -> Trc -> AS -> Option α
 | [], tr, s => K s tr
 | o :: r, tr, s =>
  match o.guard with
  | none => zc7 T Γ o s λ W => zhL T Γ ops K r ((W, Zy ops s o) :: tr) (s.aps W)
  | some _ =>
   match zhv ops o with
   | some (t, true) => (match s.at t with
    | .v (.bool b) => bif b then (zc7 T Γ o (s.known t true) λ W => zhL T Γ ops K r ((W, Zy ops (s.known t true) o) :: tr) ((s.known t true).aps W)) else zhL T Γ ops K r ((AS.out o.dst (.v undef), Zy ops (s.known t false) o) :: tr) ((s.known t false).aps (AS.out o.dst (.v undef)))
    | .v _ => zhL T Γ ops K r ((AS.out o.dst (.v undef), Zy ops s o) :: tr) (s.aps (AS.out o.dst (.v undef)))
    | _ => none)
   | some (t, false) => (match s.at t with
    | .v (.bool b) => bif b then zhL T Γ ops K r ((AS.out o.dst (.v undef), Zy ops (s.known t true) o) :: tr) ((s.known t true).aps (AS.out o.dst (.v undef))) else (zc7 T Γ o (s.known t false) λ W => zhL T Γ ops K r ((W, Zy ops (s.known t false) o) :: tr) ((s.known t false).aps W))
    | .v _ => zhL T Γ ops K r ((AS.out o.dst (.v undef), Zy ops s o) :: tr) (s.aps (AS.out o.dst (.v undef)))
    | _ => none)
   | none => none
def zeM (T : Tab) (Γ : GamK) (ops : List Oper) (draw : Bool) {α : Type} (s : AS) (K : AS -> Option α) : Option α :=
 match draw with
 | false => zhL T Γ ops (λ s' _ => K s') ops [] s
 | true => zhL T Γ ops (λ s' tr => if (zei tr.reverse (zuk ops []) 0 && zj8 ops.toArray) = true then K s' else none) ops [] s
structure Keep where
 plain : List Nat
 accs : List (Nat × Nat)
 boxes : List Nat
 lists : List (Nat × Nat)
 baccs : List ((Nat × Nat) × Nat)
 vaccs : List (Nat × Nat)
 vcells : List ((Nat × Nat) × Nat)
 sl : List Nat
 cut : Bool
 fam : Option Nat
 nils : List ((Nat × Nat) × Nat)
def znr (kp : Keep) (f : Option (Nat × Nat × Nat)) : Option (Nat × Nat × Nat) := match kp.fam with
 | none => none
 | some nm => (match f with | some (_, j, N) => some (nm, j, N) | none => some (nm, 0, 0))
def datF : AV -> AV
 | .list n xs t => .list n xs (match t with | some k => bif Nat.ble TOB k then some k else none | none => none)
 | x => dat0 x
def keptK (kp : Keep) (b : Nat) : AV -> AV := match kp.fam with
 | some nm => bif Nat.beq nm b then datF else dat0
 | none => dat0
def tb (p : Nat × Nat) : Nat := tC p.1 p.2 0
def nilL (n : Nat) : AV -> AV
 | .v (.slice none 0 0) => .list n [] none
 | x => dat2 x
def zrO (s : AS) (v : AV) (n : Nat) : Option (List (List AV) × Option Nat) :=
 match v with
 | .list n' xs (some k) => if n' = n then (match s.tk k with | some true => some (xs, some k) | _ => none) else none
 | .v (.slice none 0 0) => some ([], none)
 | _ => none
def zCv (s : AS) (t n : Nat) : Option (List (List AV) × Option Nat) := zrO s (s.at t) n
def zdZ (s : AS) : List (Nat × Nat) -> Option (List (Nat × (AV × Option Nat)))
 | [] => some []
 | (t, n) :: r =>
  match zCv s t n, zdZ s r with
  | some (xs, k), some l => some ((t, (.list n xs (some (tA t)), k)) :: l)
  | _, _ => none
def AS.cell (s : AS) (p : Nat × Nat) : AV := match s.bx p.1 with
 | some cs => (cs[p.2]?).getD .any
 | none => .any
def zaO (s : AS) : List ((Nat × Nat) × Nat) -> Option (List ((Nat × Nat) × (AV × Option Nat)))
 | [] => some []
 | (p, n) :: r =>
  match zrO s (s.cell p) n, zaO s r with
  | some (xs, k), some l => some ((p, (.list n xs (some (tb p)), k)) :: l)
  | _, _ => none
structure VE where
 name : Nat
 act : Option Nat
 val : AV
 cs : List AV
def vOf (s : AS) (v : AV) (n name : Nat) : Option VE :=
 match v with
 | .vs b off len n' =>
  if n' = n /\ s.nin <= b then
   (match s.cx b with
   | some cs => some ⟨name, some b, .vs name off len n, cs⟩
   | none => none)
  else none
 | .v (.slice none 0 0) => some ⟨name, none, .vs name 0 0 n, []⟩
 | _ => none
def za0 (s : AS) : List (Nat × Nat) -> Option (List (Nat × VE))
 | [] => some []
 | (t, n) :: r =>
  match vOf s (s.at t) n (vA t), za0 s r with
  | some e, some l => some ((t, e) :: l)
  | _, _ => none
def JG (s : AS) : List ((Nat × Nat) × Nat) -> Option (List ((Nat × Nat) × VE))
 | [] => some []
 | (p, n) :: r =>
  match vOf s (s.cell p) n (vB p.1 p.2), JG s r with
  | some e, some l => some ((p, e) :: l)
  | _, _ => none
def zzg (kp : Keep) (ves : List VE) : List (Nat × Nat) := kp.boxes.map (λ b => (b, b)) ++ ves.filterMap λ e => match e.act with | some b => some (b, e.name) | none => none
def nilB (kp : Keep) (f : Nat -> Option Nat) (b j : Nat) (v : AV) : AV := match kp.nils.lookup (b, j) with
 | some n => (match v with
  | .v (.slice none 0 0) => .list n [] none
  | x => mp0 f no1 x)
 | none => mp0 f no1 v
def zcQ (kp : Keep) (bl : List ((Nat × Nat) × (AV × Option Nat))) (vc : List ((Nat × Nat) × VE)) (f : Nat -> Option Nat) (b : Nat) (cs : List AV) : List AV :=
 bif kp.sl.contains b then cs.map (keptK kp b) else
 bif (bl.any (λ q => q.1.1 == b) || vc.any (λ q => q.1.1 == b)) || kp.nils.any (λ q => q.1.1 == b) then cs.mapIdx (λ j v => match bl.lookup (b, j) with | some p => p.1 | none => (match vc.lookup (b, j) with | some e => e.val | none => nilB kp f b j v)) else cs.map (mp0 f no1)
def Keep.names (kp : Keep) : List Nat := kp.boxes ++ (kp.vaccs.map (λ p => vA p.1) ++ kp.vcells.map λ p => vB p.1.1 p.1.2)
def Keep.toks (kp : Keep) : List (Nat × Bool) := (kp.accs.map (λ p => tA p.1) ++ kp.baccs.map λ p => tb p.1).map (λ t => (t, true)) ++ (kp.names.map (λ b => (vk b, false)) ++ (kp.sl ++ (kp.vaccs.map (λ p => vA p.1) ++ kp.vcells.map λ p => vB p.1.1 p.1.2)).map (λ b => (vm b, false)))
def ZA (kp : Keep) (al : List (Nat × (AV × Option Nat))) (bl : List ((Nat × Nat) × (AV × Option Nat))) (va : List (Nat × VE)) (vc : List ((Nat × Nat) × VE)) (s : AS) : AS := {
 env := (List.range s.env.length).map λ t => match al.lookup t with
  | some p => p.1
  | none => (match va.lookup t with
   | some e => e.val
   | none => (match kp.lists.lookup t with
    | some n => nilL n (s.at t)
    | none => if kp.plain.contains t then mp2 (λ b => (zzg kp (va.map (·.2) ++ vc.map (·.2))).lookup b) no1 (s.at t) else .any))
 box := kp.boxes.map (λ b => (b, match s.bx b with | some cs => some (zcQ kp bl vc (λ b => (zzg kp (va.map (·.2) ++ vc.map (·.2))).lookup b) b cs) | none => none)) ++ (va.map (·.2) ++ vc.map (·.2)).map (λ e => (e.name, some (e.cs.map (keptK kp e.name))))
 tok := kp.toks
 nin := s.nin
 fm := znr kp s.fm }
def zzf (kp : Keep) (s : AS) (l : List Nat) : Bool := match kp.fam with
 | none => true
 | some _ => JB s.tok && (JB kp.toks && l.all λ k => !(Nat.ble TOB k))
def keep (kp : Keep) (s : AS) : Option AS :=
 match zdZ s kp.accs, zaO s kp.baccs, za0 s kp.vaccs, JG s kp.vcells with
 | some al, some bl, some va, some vc =>
  if (zM (al.map (λ p => tA p.1) ++ (bl.map (λ p => tb p.1) ++ kp.names.map vk)) && (zM ((al.filterMap λ p => p.2.2) ++ (bl.filterMap λ p => p.2.2)) && (zM kp.names && (zM (kp.boxes ++ (va.map (·.2) ++ vc.map (·.2)).filterMap (·.act)) && ((List.range s.nin).all kp.boxes.contains && (va.map (·.2) ++ vc.map (·.2)).all (λ e => decide (s.nin <= e.name))))))) = true then (if zzf kp s ((al.filterMap λ p => p.2.2) ++ (bl.filterMap λ p => p.2.2)) = true then some (ZA kp al bl va vc s) else none) else none
 | _, _, _, _ => none
def Zz (kp : Keep) (s : AS) : AS := {
 env := (List.range s.env.length).map λ t => if (kp.accs.map (·.1)).contains t || ((kp.vaccs.map (·.1)).contains t || ((kp.lists.map (·.1)).contains t || kp.plain.contains t)) then s.at t else .any
 box := kp.names.map λ b => (b, s.bx b)
 tok := kp.toks
 nin := s.nin
 fm := znr kp s.fm }
def Code.loops : Code -> Nat
 | .seq x y => Code.loops x + Code.loops y + 1
 | .cond _ x y => Code.loops x + Code.loops y + 1
 | .block _ x => Code.loops x + 1
 | .loop x => Code.loops x + 1
 | _ => 0
abbrev Out := Exit × AS
structure LoopK where
 v : Nat -> AS -> Option Out
 K : Nat -> AS -> (α : Type) -> (Out -> Option α) -> Option α
 eq : ∀ n s (α : Type) (k : Out -> Option α) (x : α), K n s α k = some x -> ∃ o, v n s = some o /\ k o = some x
def zK : Code -> Nat -> List (Nat × Code)
 | .seq x y, n => (n, .seq x y) :: (zK x (n + 1) ++ zK y (n + 1 + Code.loops x))
 | .cond c x y, n => (n, .cond c x y) :: (zK x (n + 1) ++ zK y (n + 1 + Code.loops x))
 | .block id x, n => (n, .block id x) :: zK x (n + 1)
 | .loop x, n => (n, .loop x) :: zK x (n + 1)
 | _, _ => []
noncomputable def zrY {α : Type} (a b : Option α) : Option α := open Classical in if a = b then a else none
theorem zcs {α : Type} {a b : Option α} {x : α} (h : zrY a b = some x) : a = some x /\ b = some x := by
 unfold zrY at h
 split at h
 ·rename_i e; exact ⟨h, e ▸ h⟩
 ·cases h
theorem zne {α : Type} (a : Option α) : zrY a a = a := by unfold zrY; rw [if_pos rfl]
noncomputable def je (T : Tab) (Γ : GamK) (An : Nat -> Keep × Keep) (Λ : LoopK) : Code -> Nat -> {α : Type} -> AS -> (Exit -> AS -> Option α) -> Option α
 | .skip, _, _, s, K => K .normal s
 | .label _, _, _, s, K => K .normal s
 | .region id ops draw, _, _, s, K => fzs (An (100000 + id)).1.plain s λ s => fzc ((An (100000 + id)).1.vcells.map (·.1)) s λ s => zeM T Γ ops.toList draw s (K .normal)
 | .seq x y, n, α, s, K =>
  match (An n).1.cut with
  | true => (match keep (An n).1 s with
   | some s' => Λ.K n s' α λ p => K p.1 p.2
   | none => none)
  | false => je T Γ An Λ x (n + 1) s λ e s' => match e with
   | .normal => je T Γ An Λ y (n + 1 + Code.loops x) s' K
   | e => K e s'
 | .cond c x y, n, α, s, K =>
  match (An n).1.cut with
  | true => (match keep (An n).1 s with
   | some s' => Λ.K n s' α λ p => K p.1 p.2
   | none => none)
  | false => (match s.ev c with
   | .v (.bool b) => bif b then je T Γ An Λ x (n + 1) (s.knownO c true) K else je T Γ An Λ y (n + 1 + Code.loops x) (s.knownO c false) K
   | .ub => zrY (je T Γ An Λ x (n + 1) (s.knownO c true) K) (je T Γ An Λ y (n + 1 + Code.loops x) (s.knownO c false) K)
   | _ => none)
 | .block id x, n, α, s, K =>
  match (An n).1.cut with
  | true => (match keep (An n).1 s with
   | some s' => Λ.K n s' α λ p => K p.1 p.2
   | none => none)
  | false => je T Γ An Λ x (n + 1) s λ e s' => match e with
   | .exit i => if i = id then K .normal s' else K (.exit i) s'
   | e => K e s'
 | .loop x, n, α, s, K =>
  match keep (An n).1 s with
  | some s' => Λ.K n s' α λ p => K p.1 p.2
  | none => none
 | .exit id, _, _, s, K => K (.exit id) s
 | .ret, _, _, s, K => K .ret s
 | _, _, _, _, _ => none
def zfx (An : Nat -> Keep × Keep) (p : Nat × Code) : Bool := match p.2 with
 | .loop _ => true
 | _ => (An p.1).1.cut
def zcg (An : Nat -> Keep × Keep) (c : Code) (n : Nat) : List (Nat × Code) := (zK c n).filter (zfx An)
def zgE (An : Nat -> Keep × Keep) (n m : Nat) : Keep × Keep := if m = n then ({ (An n).1 with cut := false }, (An n).2) else An m
noncomputable def zbP (T : Tab) (Γ : GamK) (An : Nat -> Keep × Keep) (Λ : LoopK) (n : Nat) (c : Code) {α : Type} (s : AS) (ke : Out -> Option α) : Option α :=
 je T Γ (zgE An n) Λ c n s λ e s' => match keep (An n).2 s' with | some s3 => ke (e, s3) | none => none
noncomputable def ziy (T : Tab) (Γ : GamK) (An : Nat -> Keep × Keep) (Λ : LoopK) (n : Nat) (c : Code) {α : Type} (s : AS) (kn : AS -> Option α) (ke : Out -> Option α) : Option α :=
 je T Γ An Λ c (n + 1) s λ e s' => match e with
  | .normal => (match keep (An n).1 s' with | some s2 => kn s2 | none => none)
  | e => (match keep (An n).2 s' with | some s3 => ke (e, s3) | none => none)
section
variable {P : Program} {T : Tab} {Γ : GamK} {B : Base} {M : Mem} {ρ : Rho} {σ : Sig} {s s' : AS} {a : Act} {w : World} {ops : List Oper} {Q : Exit -> Act -> World -> Prop}
theorem zag {t : Nat} {b : Bool} (h : s.at t = .v (.bool b)) : s.known t b = s := by
 unfold AS.known AS.ap
 have : s.env.set t (.v (.bool b)) = s.env := by
  apply List.ext_getElem?
  intro j
  rw [List.getElem?_set]
  by_cases hj : t = j
  ·subst hj
   unfold AS.at at h
   cases hq : s.env[t]? with
   | none => rw [hq] at h; cases h
   | some v =>
    rw [hq] at h
    have hlt := (List.getElem?_eq_some_iff.1 hq).1
    simp at h
    simp [hlt, h]
  ·simp [hj]
 simp only [this]
theorem zaf {x : Operand} {b : Bool} (h : s.ev x = .v (.bool b)) : s.knownO x b = s := by
 cases x with
 | tmp t => exact zag h
 | _ => rfl
theorem zc2 {α : Type} {K : AS -> Trc -> Option α} {x : α} : ∀ (r : List Oper) (tr : Trc) (s : AS), zhL T Γ ops K r tr s = some x -> ∃ tr' s', zfz T Γ.v ops r s = some (tr', s') /\ K s' (tr'.reverse ++ tr) = some x
 | [], tr, s, h => ⟨[], s, rfl, h⟩
 | o :: r, tr, s, h => by
  have fin : ∀ W, ZL T Γ.v ops o s = some W -> zhL T Γ ops K r ((W, Zy ops s o) :: tr) (s.aps W) = some x -> ∃ tr' s', zfz T Γ.v ops (o :: r) s = some (tr', s') /\ K s' (tr'.reverse ++ tr) = some x := λ W hW hr => by
   obtain ⟨tr', s', h1, h2⟩ := zc2 r _ _ hr
   refine ⟨(W, Zy ops s o) :: tr', s', ?_, by simpa using h2⟩
   unfold zfz
   rw [hW]
   simp only [h1]
  have viaStep : ∀ t want b, zhv ops o = some (t, want) -> o.guard ≠ none -> s.at t = .v (.bool b) -> (b == want) = true -> (zc7 T Γ o s λ W => zhL T Γ ops K r ((W, Zy ops s o) :: tr) (s.aps W)) = some x -> ∃ tr' s', zfz T Γ.v ops (o :: r) s = some (tr', s') /\ K s' (tr'.reverse ++ tr) = some x := λ t want b hg hne hb hw hm => by
   obtain ⟨W, hW, hm⟩ := zft hm
   refine fin W ?_ hm
   unfold ZL zkt
   cases hq : o.guard with
   | none => exact absurd hq hne
   | some p => simp only [hg, hb, hw]; exact hW
  have viaSkip : ∀ t want b, zhv ops o = some (t, want) -> o.guard ≠ none -> s.at t = .v (.bool b) -> (b == want) = false -> zhL T Γ ops K r ((AS.out o.dst (.v undef), Zy ops s o) :: tr) (s.aps (AS.out o.dst (.v undef))) = some x -> ∃ tr' s', zfz T Γ.v ops (o :: r) s = some (tr', s') /\ K s' (tr'.reverse ++ tr) = some x := λ t want b hg hne hb hw hm => by
   refine fin _ ?_ hm
   unfold ZL zkt
   cases hq : o.guard with
   | none => exact absurd hq hne
   | some p => simp only [hg, hb, hw]
  have viaFlat : ∀ t want v, zhv ops o = some (t, want) -> o.guard ≠ none -> s.at t = .v v -> (∀ b, v = .bool b -> False) -> zhL T Γ ops K r ((AS.out o.dst (.v undef), Zy ops s o) :: tr) (s.aps (AS.out o.dst (.v undef))) = some x -> ∃ tr' s', zfz T Γ.v ops (o :: r) s = some (tr', s') /\ K s' (tr'.reverse ++ tr) = some x := λ t want v hg hne hb hnb hm => by
   refine fin _ ?_ hm
   unfold ZL zkt
   cases hq : o.guard with
   | none => exact absurd hq hne
   | some p =>
    simp only [hg, hb]
    try (cases v <;> first | rfl | exact (hnb _ rfl).elim)
  unfold zhL at h
  split at h
  ·rename_i hg
   obtain ⟨W, hW, h⟩ := zft h
   refine fin W ?_ h
   unfold ZL zkt
   rw [hg]
   exact hW
  ·rename_i p hp
   have hne : o.guard ≠ none := by rw [hp]; simp
   split at h
   ·rename_i t hg
    split at h
    ·rename_i b hb
     cases b
     ·rw [zag hb] at h; exact viaSkip t true false hg hne hb rfl h
     ·rw [zag hb] at h; exact viaStep t true true hg hne hb rfl h
    ·rename_i v hnb hb; exact viaFlat t true v hg hne hb (λ b e => hnb b e) h
    ·cases h
   ·rename_i t hg
    split at h
    ·rename_i b hb
     cases b
     ·rw [zag hb] at h; exact viaStep t false false hg hne hb rfl h
     ·rw [zag hb] at h; exact viaSkip t false true hg hne hb rfl h
    ·rename_i v hnb hb; exact viaFlat t false v hg hne hb (λ b e => hnb b e) h
    ·cases h
   ·cases h
theorem zgI (hT : TabOk P T) (hG : GOk P Γ.v) : ∀ (r : List Oper) (i : Nat) (s s' : AS) (tr : Trc) (a : Act) (w : World), (∀ k, r[k]? = ops[i + k]?) -> zfz T Γ.v ops r s = some (tr, s') -> Sim B s a w -> (∀ a' w', Sim B s' a' w' -> Q .normal a' w') ->
  wpOps P ops.toArray Q ((List.range' i r.length)) a w
 | [], i, s, s', tr, a, w, _, h, hS, hQ => by cases h; exact hQ a w hS
 | o :: r, i, s, s', tr, a, w, hr, h, hS, hQ => by
  have h0 : ops[i]? = some o := by simpa using (hr 0).symm
  unfold zfz at h
  split at h
  ·rename_i W hW
   split at h
   ·rename_i tr' s'' hc
    cases h
    have hx : ops.toArray[i]? = some o := by simpa using h0
    rw [List.length_cons, List.range'_succ]
    unfold wpOps
    rw [hx]
    simp only
    have hk : ∀ a' w', Sim B (s.aps W) a' w' -> wpOps P ops.toArray Q (List.range' (i + 1) r.length) a' w' := λ a' w' hS' =>
     zgI hT hG r (i + 1) _ _ _ a' w' (λ k => by have := hr (k + 1); simpa [Nat.add_assoc, Nat.add_comm 1 k] using this) hc hS' hQ
    have g := ziX (Q := Q) hT hG hS hW (wpOps P ops.toArray Q (List.range' (i + 1) r.length)) hk
    split at g
    ·rename_i hw; rw [if_pos hw]; exact .inl g
    ·rename_i hw; rw [if_neg hw]; exact g
   ·cases h
  ·cases h
def RegRun (P : Program) (ops : Array Oper) (Q : Exit -> Act -> World -> Prop) (draw : Bool) (a : Act) (w : World) : Prop := match draw with
 | false => wpOps P ops Q (List.range ops.size) a w
 | true => wpAny P .any ops Q ops.size (Array.replicate ops.size false) a w.drew
theorem RegRun.wp {P : Program} {ops : Array Oper} {Q : Exit -> Act -> World -> Prop} {draw : Bool} {a : Act} {w : World} {id : Nat} (hm : P.follows .mixedOrders = true) (h : RegRun P ops Q draw a w) : (Code.region id ops draw).wp P Q a w := by
 cases draw with
 | false => exact wp_region h
 | true => exact wp_region_any hm h
theorem zcl {α : Type} {draw : Bool} (hT : TabOk P T) (hG : GOk P Γ.v) {K : AS -> Option α} {x : α} {opa : Array Oper} (h : zeM T Γ opa.toList draw s K = some x) (hS : Sim B s a w) (hQ : ∀ s' a' w', K s' = some x -> Sim B s' a' w' -> Q .normal a' w') : RegRun P opa Q draw a w := by
 unfold zeM at h
 have ea : opa = opa.toList.toArray := by simp
 split at h
 ·obtain ⟨tr, s', h1, h2⟩ := zc2 _ _ _ h
  show wpOps P opa Q (List.range opa.size) a w
  have := zgI (Q := Q) hT hG opa.toList 0 s s' tr a w (λ k => by simp) h1 hS (λ a' w' => hQ s' a' w' h2)
  rw [ea, List.range_eq_range']
  simpa using this
 ·obtain ⟨tr, s', h1, h2⟩ := zc2 _ _ _ h
  split at h2
  ·rename_i hc
   rw [Bool.and_eq_true] at hc
   obtain ⟨c1, c2⟩ := hc
   simp only [List.append_nil, List.reverse_reverse] at c1
   show wpAny P .any opa Q opa.size (Array.replicate opa.size false) a w.drew
   rw [ea]
   exact zm6 hT hG c2 h1 c1 hS (λ a' w' => hQ s' a' w' h2)
  ·cases h2
theorem zj2 {α : Type} {id : Nat} {draw : Bool} (hT : TabOk P T) (hG : GOk P Γ.v) (hm : P.follows .mixedOrders = true) {K : AS -> Option α} {x : α} {opa : Array Oper} (h : zeM T Γ opa.toList draw s K = some x) (hS : Sim B s a w) (hQ : ∀ s' a' w', K s' = some x -> Sim B s' a' w' -> Q .normal a' w') : (Code.region id opa draw).wp P Q a w :=
 (zcl hT hG h hS hQ).wp hm
end
end
end Go.Proofs.YthdgnfcbehcplaaGreatDoor
