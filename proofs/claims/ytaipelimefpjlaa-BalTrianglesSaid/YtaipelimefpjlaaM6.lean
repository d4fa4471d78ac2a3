/- Proof texts, put together. -/
import Derived.Test.YtaipelimefpjlaaRows
import Derived.WalkKit
import Derived.ProofKit
import Derived.OpenShut
import Derived.ShutString
import Derived.ChangeOld
import Derived.Below
import Derived.SizedLaws
import Derived.Test.YtaipelimefpjlaaM5
section
set_option linter.all false
/- The statements of layer 16: what they build of their input. -/
namespace Go.Ev.Try
open Go.Ev
variable {D : Nat}

def u64Z (l : List Int) : List C := l.map (C.int .u64)
theorem l_made {α : Type} {H : Heap} {n : Nat} (hn : n ≤ 7) (len : Nat) (l : List Int) (hl : l.length = len) (hl0 : 0 < len) (hll : len ≤ 100) (hw : ∀ x ∈ l, (Lit.int .u64 x).wf = true) {id : Nat} {kd : Nat} (hid : H[id]? = some (.mem kd (u64Z l))) (holes : Nat) (hh : holes < 18446744073709551616) (call : Nat → List V → List Box → Heap → Option Res) (N n0 : Nat) (K0 : Int → Int → Int → C → Heap → Option α) (x y z : Int) :
    ∀ (m q i : Nat) (g : Nat → Nat → Nat), m < q → i + m = n * n → u64M n n g →
      ∃ g' : Nat → Nat → Nat, u64M n n g' ∧
      f8_l0 call N n0 K0 q (.sl id 0 len 1) (holes : Int) ((n * n : Nat) : Int) (i : Int) x y z (.sl (List.length H) 0 (n * n) 1) (H ++ [.mem 2 (u64L (MX n n g))]) = K0 x y z (.sl (List.length H) 0 (n * n) 1) (H ++ [.mem 2 (u64L (MX n n g'))]) := by
  have hnn : n * n ≤ 49 := by have := Nat.mul_le_mul hn hn; omega
  intro m
  induction m with
  | zero =>
    intro q i g hq hi hu
    obtain ⟨q, rfl⟩ : ∃ k', q = k' + 1 := ⟨q - 1, by omega⟩
    refine ⟨g, hu, ?_⟩
    rw [f8_l0, decide_eq_false (show ¬ ((i : Int) < ((n * n : Nat) : Int)) by omega), c_f]
  | succ m ih =>
    intro q i g hq hi hu
    obtain ⟨q, rfl⟩ : ∃ k', q = k' + 1 := ⟨q - 1, by omega⟩
    rw [f8_l0, decide_eq_true (show (i : Int) < ((n * n : Nat) : Int) by omega), c_t, lenK_sl, decide_eq_true (show (len : Int) > 0 by omega), c_t]
    have h63 : bitI .and .i64 (i : Int) 63 = (i : Int) := by
      show IntKind.wrap .i64 (((BitVec.ofInt 64 (i : Int) &&& BitVec.ofInt 64 63).toNat : Nat) : Int) = _
      rw [BitVec.toNat_and, show (BitVec.ofInt 64 63).toNat = 63 from rfl, ofInt_nat, BitVec.toNat_ofNat, Nat.mod_eq_of_lt (by omega), show i &&& 63 = i % 64 from Nat.and_two_pow_sub_one_eq_mod _ 6, Nat.mod_eq_of_lt (by omega)]
      exact wrap_i64 _ (by omega) (by omega)
    simp only [h63, wrap_u64_id (i : Int) (by omega) (by omega), decide_eq_false (show ¬ ((i : Int) < 0) by omega), c_f, wrap_i64 ((i : Int) + 1) (by omega) (by omega)]
    generalize (bitI .and .u64 (shrI .u64 (holes : Int) (i : Int)) 1 == 0) = b
    cases b
    · rw [c_f]
      exact ih q (i + 1) g (by omega) (by omega) hu
    · rw [c_t, lenK_sl, show ((len : Int) == 0) = false from by apply Bool.eq_false_iff.2; simp only [ne_eq, beq_iff_eq]; omega, c_f]
      have ht : Int.tmod (i : Int) (len : Int) = ((i % len : Nat) : Int) := by rw [Int.tmod_eq_emod_of_nonneg (by omega)]; rfl
      have hlt : i % len < len := Nat.mod_lt _ hl0
      rw [ht, eltK_sl (α := α) id 0 len 1 (i % len) hlt]
      obtain ⟨v, hv, hvl⟩ : ∃ v : Nat, l[i % len]? = some (v : Int) ∧ v < 18446744073709551616 := by
        have h1 : i % len < l.length := by omega
        obtain ⟨v, hv, hvl⟩ := wf_u64 (hw l[i % len] (List.getElem_mem h1))
        exact ⟨v, by rw [List.getElem?_eq_getElem h1, hv], hvl⟩
      have hr : ∀ F : List C → Option α, rdE (H ++ [Blk.mem 2 (u64L (MX n n g))]) id (0 + i % len * 1) 1 F = F [.int .u64 (v : Int)] := by
        intro F
        unfold rdE
        have hid' : (H ++ [Blk.mem 2 (u64L (MX n n g))])[id]? = some (.mem kd (u64Z l)) := by
          rw [List.getElem?_append_left (List.getElem?_eq_some_iff.1 hid).1]; exact hid
        rw [memAt_get hid', Nat.zero_add, Nat.mul_one, take_one_at (x := .int .u64 (v : Int)) (by unfold u64Z; rw [List.getElem?_map, hv]; rfl)]
      have hn0 : 0 < n := by
        rcases Nat.eq_zero_or_pos n with h0 | h0
        · subst h0; omega
        · exact h0
      have hdi : i / n < n := by rw [Nat.div_lt_iff_lt_mul hn0]; omega
      have hmi : i % n < n := Nat.mod_lt _ hn0
      have hsp : i / n * n + i % n = i := by rw [Nat.mul_comm]; exact Nat.div_add_mod i n
      have hst := fun F : Heap → Option α => stM (HM_new (H := H) (r := n) (c := n) (f := g)) (i / n) (i % n) v hdi hmi F
      rw [hsp] at hst
      rw [hr]
      simp only [ob_some, rI_int, rB_bool, rC_one, rA_agg, rT_tup, tL_cons, tN_nil, cI_cons, cB_cons, cO_cons, cN_nil, bL_cons, bN_nil, optK_some, lenK_sl, lenK_nsl, List.take_length]
      rw [eltK_sl (α := α) (List.length H) 0 (n * n) 1 i (by omega), hst, set_new]
      refine ih q (i + 1) _ (by omega) (by omega) ?_
      intro a b ha hb
      unfold upm
      split
      · exact hvl
      · exact hu a b ha hb
end Go.Ev.Try
end

section
set_option linter.all false
namespace Go.Ev.Try
open Go.Ev
theorem head_run (L : List C) : (ev E 12 6 [] [] [.mem 0 L]).map (fun r => (r.1, r.2.1, r.2.2.take 1)) = some (.one (.bool true), [], [.mem 0 L]) := by kernel_rfl
end Go.Ev.Try
end

section
set_option linter.all false
/- BalApart. -/
namespace Go.Ev.Try
open Go.Ev
variable {D : Nat}

theorem s_made (hD : 2 ≤ D) {L : List Int} {n : Nat} (hn : n ≤ 7) (c : C) (hc : IsCell .u64 c 0 L) (hlen : L.length ≤ 100) (hw : ∀ x ∈ L, (Lit.int .u64 x).wf = true) (holes : Nat) (hh : holes < 18446744073709551616) :
    ∃ g' : Nat → Nat → Nat, u64M n n g' ∧
      ev E D 8 [.one (.int .i64 (n : Int)), .one c, .one (.int .u64 (holes : Int))] [] [.mem 0 (u64Z L)] =
        some (.agg [.int .i64 (n : Int), .int .i64 (n : Int), .int .i64 (n : Int), .sl 1 0 (n * n) 1], [], [.mem 0 (u64Z L), .mem 2 (u64L (MX n n g'))]) := by
  obtain ⟨d, rfl⟩ : ∃ d, D = d + 1 := ⟨D - 1, by omega⟩
  have hN : 5000 < E.N := by decide
  have hnn : n * n ≤ 49 := by have := Nat.mul_le_mul hn hn; omega
  have hL := Eq.refl (f8 (ev E d) E.N (n : Int) c (holes : Int) [.mem 0 (u64Z L)])
  conv at hL => rhs; unfold f8
  have hNew := s_New (D := d) (H := [.mem 0 (u64Z L)]) (by omega) n n (by omega) (by omega)
  rw [show List.length [Blk.mem 0 (u64Z L)] = 1 from rfl] at hNew
  simp only [hNew, ob_some, rI_int, rB_bool, rC_one, rA_agg, rT_tup, tL_cons, tN_nil, cI_cons, cB_cons, cO_cons, cN_nil, bL_cons, bN_nil, optK_some, lenK_sl, lenK_nsl, List.take_length] at hL
  rcases hc with ⟨rfl, rfl⟩ | rfl
  · have key : ∀ (m q i : Nat), m < q → i + m = n * n → ∀ (K0 : Int → Int → Int → C → Heap → Option Res), f8_l0 (ev E d) E.N 1 K0 q .nsl (holes : Int) ((n * n : Nat) : Int) (i : Int) (n : Int) (n : Int) (n : Int) (.sl 1 0 (n * n) 1) ([.mem 0 (u64Z [])] ++ [.mem 2 (u64L (MX n n fun _ _ => 0))]) = K0 (n : Int) (n : Int) (n : Int) (.sl 1 0 (n * n) 1) ([.mem 0 (u64Z [])] ++ [.mem 2 (u64L (MX n n fun _ _ => 0))]) := by
      intro m
      induction m with
      | zero =>
        intro q i hq hi K0
        obtain ⟨q, rfl⟩ : ∃ k', q = k' + 1 := ⟨q - 1, by omega⟩
        rw [f8_l0, decide_eq_false (show ¬ ((i : Int) < ((n * n : Nat) : Int)) by omega), c_f]
      | succ m ih =>
        intro q i hq hi K0
        obtain ⟨q, rfl⟩ : ∃ k', q = k' + 1 := ⟨q - 1, by omega⟩
        rw [f8_l0, decide_eq_true (show (i : Int) < ((n * n : Nat) : Int) by omega), c_t, lenK_nsl, show decide ((0 : Int) > 0) = false from rfl, c_f]
        simp only [wrap_i64 ((i : Int) + 1) (by omega) (by omega)]
        exact ih q (i + 1) (by omega) (by omega) K0
    have k := key (n * n) E.N 0 (by omega) (by omega)
    rw [show ((0 : Nat) : Int) = 0 from rfl] at k
    rw [show List.length [Blk.mem 0 (u64Z [])] = 1 from rfl, k] at hL
    exact ⟨fun _ _ => 0, fun _ _ _ _ => (show (0 : Nat) < 18446744073709551616 by decide), f8_le hL⟩
  · by_cases h0 : L = []
    · subst h0
      have key : ∀ (m q i : Nat), m < q → i + m = n * n → ∀ (K0 : Int → Int → Int → C → Heap → Option Res), f8_l0 (ev E d) E.N 1 K0 q (.sl 0 0 0 1) (holes : Int) ((n * n : Nat) : Int) (i : Int) (n : Int) (n : Int) (n : Int) (.sl 1 0 (n * n) 1) ([.mem 0 (u64Z [])] ++ [.mem 2 (u64L (MX n n fun _ _ => 0))]) = K0 (n : Int) (n : Int) (n : Int) (.sl 1 0 (n * n) 1) ([.mem 0 (u64Z [])] ++ [.mem 2 (u64L (MX n n fun _ _ => 0))]) := by
        intro m
        induction m with
        | zero =>
          intro q i hq hi K0
          obtain ⟨q, rfl⟩ : ∃ k', q = k' + 1 := ⟨q - 1, by omega⟩
          rw [f8_l0, decide_eq_false (show ¬ ((i : Int) < ((n * n : Nat) : Int)) by omega), c_f]
        | succ m ih =>
          intro q i hq hi K0
          obtain ⟨q, rfl⟩ : ∃ k', q = k' + 1 := ⟨q - 1, by omega⟩
          rw [f8_l0, decide_eq_true (show (i : Int) < ((n * n : Nat) : Int) by omega), c_t, lenK_sl, show decide (((0 : Nat) : Int) > 0) = false from rfl, c_f]
          simp only [wrap_i64 ((i : Int) + 1) (by omega) (by omega)]
          exact ih q (i + 1) (by omega) (by omega) K0
      have k := key (n * n) E.N 0 (by omega) (by omega)
      rw [show ((0 : Nat) : Int) = 0 from rfl] at k
      rw [show List.length [Blk.mem 0 (u64Z [])] = 1 from rfl, show List.length ([] : List Int) = 0 from rfl, k] at hL
      exact ⟨fun _ _ => 0, fun _ _ _ _ => (show (0 : Nat) < 18446744073709551616 by decide), f8_le hL⟩
    · have hpos : 0 < L.length := List.length_pos_iff.2 h0
      obtain ⟨g', hu, k⟩ := l_made (α := Res) (H := [.mem 0 (u64Z L)]) hn L.length L rfl hpos hlen hw (id := 0) (kd := 0) rfl holes hh (ev E d) E.N 1 (fun x y z w h => some (.agg [.int .i64 x, .int .i64 y, .int .i64 z, w], [], h)) (n : Int) (n : Int) (n : Int) (n * n) E.N 0 (fun _ _ => 0) (by omega) (by omega) (fun _ _ _ _ => (show (0 : Nat) < 18446744073709551616 by decide))
      rw [show ((0 : Nat) : Int) = 0 from rfl, show List.length [Blk.mem 0 (u64Z L)] = 1 from rfl] at k
      rw [show List.length [Blk.mem 0 (u64Z L)] = 1 from rfl, k] at hL
      exact ⟨g', hu, f8_le hL⟩

theorem s_head (L : List C) : ∃ R' H', ev E 12 6 [] [] [.mem 0 L] = some (.one (.bool true), R', H') ∧ R' = [] ∧ List.take 1 H' = [.mem 0 L] := by
  have h := head_run L
  cases he : ev E 12 6 [] [] [.mem 0 L] with
  | none => rw [he] at h; cases h
  | some r =>
    obtain ⟨v, R', H'⟩ := r
    rw [he] at h
    simp only [Option.map_some, Option.some.injEq, Prod.mk.injEq] at h
    obtain ⟨rfl, rfl, h⟩ := h
    exact ⟨[], H', rfl, rfl, h⟩

theorem l_law1 {α : Type} (hD : 2 ≤ D) {H : Heap} {n id : Nat} {g} (hH : HM H id n n g) (hu : u64M n n g) (hn : n ≤ 4096) (i lo hi : Nat) (hin : i < n) (hhi : hi ≤ n) (N n0 : Nat) (K0 : Int → Int → Int → Int → Int → Int → C → C → C → Int → Int → Heap → Option α) (u v : C) (x : Int) :
    ∀ (m q k row col : Nat), m < q → hi - k = m → row + (hi - k) < 5000 → col + (hi - k) < 5000 →
      ∃ row' col' : Nat, (row' = 0 → row = 0 ∧ loneP g i k hi false) ∧ (col' = 0 → col = 0 ∧ loneP g i k hi true) ∧
      f3_l1 (ev E D) N n0 K0 q (i : Int) (row : Int) (col : Int) (k : Int) (n : Int) (n : Int) (n : Int) (.sl id 0 (n * n) 1) u v x (hi : Int) H = K0 (i : Int) (row' : Int) (col' : Int) (n : Int) (n : Int) (n : Int) (.sl id 0 (n * n) 1) u v x (hi : Int) H := by
  intro m
  induction m with
  | zero =>
    intro q k row col hq hk hr hc
    obtain ⟨q, rfl⟩ : ∃ k', q = k' + 1 := ⟨q - 1, by omega⟩
    refine ⟨row, col, fun h => ⟨h, fun z h1 h2 => by omega⟩, fun h => ⟨h, fun z h1 h2 => by omega⟩, ?_⟩
    rw [f3_l1, decide_eq_false (show ¬ ((k : Int) < hi) by omega), c_f]
  | succ m ih =>
    intro q k row col hq hk hr hc
    obtain ⟨q, rfl⟩ : ∃ k', q = k' + 1 := ⟨q - 1, by omega⟩
    have hkn : k < n := by omega
    have hne : ((k : Int) != (i : Int)) = decide (k ≠ i) := by apply Bool.eq_iff_iff.2; simp only [bne_iff_ne, decide_eq_true_eq, ne_eq]; omega
    have h0 : ∀ z : Nat, ((bAbs z : Int) != 0) = decide (bKind z ≠ 1) := fun z => by
      have := abs_zero z
      apply Bool.eq_iff_iff.2; simp only [bne_iff_ne, decide_eq_true_eq, ne_eq]; rw [← this]; omega
    rw [f3_l1, decide_eq_true (show (k : Int) < hi by omega), c_t]
    simp only [f3_j0, s_At hD hH i k hn hn hin hkn, s_At hD hH k i hn hn hkn hin, s_Abs (show 1 ≤ D by omega) (g i k) (hu i k hin hkn), s_Abs (show 1 ≤ D by omega) (g k i) (hu k i hkn hin), ob_some, rI_int, rB_bool, rC_one, rA_agg, rT_tup, tL_cons, tN_nil, cI_cons, cB_cons, cO_cons, cN_nil, bL_cons, bN_nil, optK_some, lenK_sl, lenK_nsl, List.take_length, hne, h0, wrap_i64 ((k : Int) + 1) (by omega) (by omega), wrap_i64 ((row : Int) + 1) (by omega) (by omega), wrap_i64 ((col : Int) + 1) (by omega) (by omega)]
    by_cases hki : k = i
    · rw [decide_eq_false (show ¬ (k ≠ i) from fun h => h hki)]
      simp only [c_f]
      obtain ⟨row', col', h1, h2, h3⟩ := ih q (k + 1) row col (by omega) (by omega) (by omega) (by omega)
      exact ⟨row', col', fun h => ⟨(h1 h).1, (loneP_step g i k hi false (by omega)).2 ⟨.inl hki, (h1 h).2⟩⟩, fun h => ⟨(h2 h).1, (loneP_step g i k hi true (by omega)).2 ⟨.inl hki, (h2 h).2⟩⟩, h3⟩
    · rw [decide_eq_true (show k ≠ i from hki)]
      simp only [c_t]
      by_cases z1 : bKind (g i k) = 1 <;> by_cases z2 : bKind (g k i) = 1
      · rw [decide_eq_false (show ¬ (bKind (g i k) ≠ 1) from fun h => h z1), decide_eq_false (show ¬ (bKind (g k i) ≠ 1) from fun h => h z2)]
        simp only [c_f]
        obtain ⟨row', col', h1, h2, h3⟩ := ih q (k + 1) row col (by omega) (by omega) (by omega) (by omega)
        exact ⟨row', col', fun h => ⟨(h1 h).1, (loneP_step g i k hi false (by omega)).2 ⟨.inr z1, (h1 h).2⟩⟩, fun h => ⟨(h2 h).1, (loneP_step g i k hi true (by omega)).2 ⟨.inr z2, (h2 h).2⟩⟩, h3⟩
      · rw [decide_eq_false (show ¬ (bKind (g i k) ≠ 1) from fun h => h z1), decide_eq_true (show bKind (g k i) ≠ 1 from z2)]
        simp only [c_f, c_t]
        obtain ⟨row', col', h1, h2, h3⟩ := ih q (k + 1) row (col + 1) (by omega) (by omega) (by omega) (by omega)
        exact ⟨row', col', fun h => ⟨(h1 h).1, (loneP_step g i k hi false (by omega)).2 ⟨.inr z1, (h1 h).2⟩⟩, fun h => by have := (h2 h).1; omega, h3⟩
      · rw [decide_eq_true (show bKind (g i k) ≠ 1 from z1), decide_eq_false (show ¬ (bKind (g k i) ≠ 1) from fun h => h z2)]
        simp only [c_f, c_t]
        obtain ⟨row', col', h1, h2, h3⟩ := ih q (k + 1) (row + 1) col (by omega) (by omega) (by omega) (by omega)
        exact ⟨row', col', fun h => by have := (h1 h).1; omega, fun h => ⟨(h2 h).1, (loneP_step g i k hi true (by omega)).2 ⟨.inr z2, (h2 h).2⟩⟩, h3⟩
      · rw [decide_eq_true (show bKind (g i k) ≠ 1 from z1), decide_eq_true (show bKind (g k i) ≠ 1 from z2)]
        simp only [c_t]
        obtain ⟨row', col', h1, h2, h3⟩ := ih q (k + 1) (row + 1) (col + 1) (by omega) (by omega) (by omega) (by omega)
        exact ⟨row', col', fun h => by have := (h1 h).1; omega, fun h => by have := (h2 h).1; omega, h3⟩

theorem l_law2 {α : Type} (hD : 2 ≤ D) {H : Heap} {n id : Nat} {g} (hH : HM H id n n g) (hu : u64M n n g) (hn : n ≤ 4096) (lo hi : Nat) (hhi : hi ≤ n) (hr : NoRow g lo hi) (hc : NoCol g lo hi) (N n0 : Nat) (hN : 5000 < N) (K0 K1 : Heap → Option α) (u v : C) :
    ∀ (m q i : Nat), m < q → hi - i = m → lo ≤ i →
      f3_l2 (ev E D) N n0 K0 K1 q (i : Int) (n : Int) (n : Int) (n : Int) (.sl id 0 (n * n) 1) u v (lo : Int) (hi : Int) H = K0 H := by
  intro m
  induction m with
  | zero =>
    intro q i hq hi0 hlo
    obtain ⟨q, rfl⟩ : ∃ k', q = k' + 1 := ⟨q - 1, by omega⟩
    rw [f3_l2, decide_eq_false (show ¬ ((i : Int) < hi) by omega), c_f]
  | succ m ih =>
    intro q i hq hi0 hlo
    obtain ⟨q, rfl⟩ : ∃ k', q = k' + 1 := ⟨q - 1, by omega⟩
    rw [f3_l2, decide_eq_true (show (i : Int) < hi by omega), c_t]
    obtain ⟨row', col', h1, h2, h3⟩ := l_law1 (α := α) hD hH hu hn i lo hi (by omega) hhi N n0 (fun x1475 x1476 x1477 x1478 x1479 x1480 c1481 c1482 c1483 x1484 x1485 h1486 => (bif (x1476 == 0) then (K1 h1486) else (bif (x1477 == 0) then (K1 h1486) else (let x1487 : Int := (IntKind.wrap .i64 (x1475 + 1)); (f3_l2 (ev E D) N n0 K0 K1 q x1487 x1478 x1479 x1480 c1481 c1482 c1483 x1484 x1485 h1486))))) u v (lo : Int) (hi - lo) N lo 0 0 (by omega) rfl (by omega) (by omega)
    rw [show ((0 : Nat) : Int) = 0 from rfl] at h3
    rw [h3]
    have n1 : row' ≠ 0 := fun h => hr i hlo (by omega) (h1 h).2
    have n2 : col' ≠ 0 := fun h => hc i hlo (by omega) (h2 h).2
    simp only [show ((row' : Int) == 0) = false from by apply Bool.eq_false_iff.2; simp only [ne_eq, beq_iff_eq]; omega, show ((col' : Int) == 0) = false from by apply Bool.eq_false_iff.2; simp only [ne_eq, beq_iff_eq]; omega, c_f, wrap_i64 ((i : Int) + 1) (by omega) (by omega)]
    exact ih q (i + 1) (by omega) (by omega) (by omega)

theorem BalApart_pure (a0 : Int) (hw0 : (Lit.int .i64 a0).wf = true) (c1 : C) (l1 : List Int) (hc1 : IsCell .u64 c1 0 l1) (hw1 : ∀ n ∈ l1, (Lit.int .u64 n).wf = true) (a2 : Int) (hw2 : (Lit.int .u64 a2).wf = true) : ∃ d R' H', ev E d 3 [.one (.int .i64 a0), .one c1, .one (.int .u64 a2)] [] [.mem 0 (l1.map (C.int .u64))] = some (.one (.bool true), R', H') := by
  obtain ⟨holes, rfl, hh⟩ := wf_u64 hw2
  obtain ⟨n, hn, hand⟩ := and7 a0
  have hN : 5000 < E.N := by decide
  obtain ⟨R0, H0, hhead, rfl, htake⟩ := s_head (u64Z l1)
  have hL := Eq.refl (f3 (ev E 12) E.N a0 c1 (holes : Int) [.mem 0 (u64Z l1)])
  conv at hL => rhs; unfold f3
  have hlen : ∀ F : Int → Option Res, lenK c1 F = F (l1.length : Int) := by
    intro F
    rcases hc1 with ⟨rfl, rfl⟩ | rfl
    · rfl
    · rfl
  simp only [hhead, ob_some, rI_int, rB_bool, rC_one, rA_agg, rT_tup, tL_cons, tN_nil, cI_cons, cB_cons, cO_cons, cN_nil, bL_cons, bN_nil, optK_some, lenK_sl, lenK_nsl, List.take_length, show List.length [Blk.mem 0 (u64Z l1)] = 1 from rfl, htake, b_nt, c_f, hlen, hand] at hL
  by_cases hl : l1.length ≤ 100
  case neg =>
    rw [decide_eq_true (show (l1.length : Int) > 100 by omega), c_t] at hL
    exact ⟨13, _, _, f3_le hL⟩
  obtain ⟨g, hu, hmade⟩ := s_made (D := 12) (by omega) hn c1 hc1 hl hw1 holes hh
  rw [decide_eq_false (show ¬ ((l1.length : Int) > 100) by omega), c_f] at hL
  simp only [hmade, ob_some, rI_int, rB_bool, rC_one, rA_agg, rT_tup, tL_cons, tN_nil, cI_cons, cB_cons, cO_cons, cN_nil, bL_cons, bN_nil, optK_some, lenK_sl, lenK_nsl, List.take_length] at hL
  have hM : HM [.mem 0 (u64Z l1), .mem 2 (u64L (MX n n g))] 1 n n g := rfl
  by_cases hf : finAll g n n 0
  · obtain ⟨lo, hi, H', g', σ, w, hS, hC, hof⟩ := s_Of (D := 12) (by omega) hM hu (by omega) hf
    simp only [hof, ob_some, rI_int, rB_bool, rC_one, rA_agg, rT_tup, tL_cons, tN_nil, cI_cons, cB_cons, cO_cons, cN_nil, bL_cons, bN_nil, optK_some, lenK_sl, lenK_nsl, List.take_length] at hL
    rw [show ((0 : Int) != 0) = false from rfl, c_f] at hL
    have hb := hC.zr.bd
    rw [l_law2 (D := 12) (by omega) hS.mat hS.u64 (by omega) lo hi hC.zr.bd hC.row hC.col E.N _ hN _ _ _ _ (hi - lo) E.N lo (by omega) rfl (Nat.le_refl _)] at hL
    exact ⟨13, _, _, f3_le hL⟩
  · simp only [s_Of_bad (D := 12) (by omega) hM hu (by omega) hf, ob_some, rI_int, rB_bool, rC_one, rA_agg, rT_tup, tL_cons, tN_nil, cI_cons, cB_cons, cO_cons, cN_nil, bL_cons, bN_nil, optK_some, lenK_sl, lenK_nsl, List.take_length] at hL
    rw [show ((6 : Int) != 0) = true from rfl, c_t] at hL
    exact ⟨13, _, _, f3_le hL⟩
end Go.Ev.Try
end

section
set_option linter.all false
/- BalTriangles. -/
namespace Go.Ev.Try
open Go.Ev
variable {D : Nat}

theorem l_tri0 {α : Type} (hD : 2 ≤ D) {H : Heap} {n id : Nat} {f} (hH : HM H id n n f) (hn : n ≤ 4096) (i : Nat) (hin : i < n) (N n0 : Nat) (x : Int) (K : Int → Int → Int → Int → Int → C → Heap → Option α) :
    ∀ (m q k : Nat) (g : Nat → Nat → Nat), k + m = i → m < q →
      f4_l0 (ev E D) N n0 K q x (i : Int) (k : Int) (n : Int) (n : Int) (n : Int) (.sl id 0 (n * n) 1) (H.set id (.mem 2 (u64L (MX n n g)))) =
      K x (i : Int) (n : Int) (n : Int) (n : Int) (.sl id 0 (n * n) 1) (H.set id (.mem 2 (u64L (MX n n fun a b => if a = i ∧ k ≤ b ∧ b < i then 0 else g a b)))) := by
  intro m
  induction m with
  | zero =>
    intro q k g hk hq
    obtain ⟨q, rfl⟩ : ∃ k', q = k' + 1 := ⟨q - 1, by omega⟩
    rw [f4_l0, decide_eq_false (show ¬ ((k : Int) < i) by omega), c_f]
    rw [MX_congr n n g (fun a b => if a = i ∧ k ≤ b ∧ b < i then 0 else g a b) (fun a b ha hb => by rw [if_neg (by omega)])]
  | succ m ih =>
    intro q k g hk hq
    obtain ⟨q, rfl⟩ : ∃ k', q = k' + 1 := ⟨q - 1, by omega⟩
    have h := ih q (k + 1) (upm g i k 0) (by omega) (by omega)
    rw [show ((k + 1 : Nat) : Int) = (k : Int) + 1 from rfl] at h
    rw [f4_l0, decide_eq_true (show (k : Int) < i by omega), c_t]
    have hg : HM (H.set id (.mem 2 (u64L (MX n n g)))) id n n g := HM_set hH
    have hS := s_Set hD hg i k 0 hn hn hin (by omega)
    rw [List.set_set, show ((0 : Nat) : Int) = 0 from rfl] at hS
    simp only [hS, ob_some, rI_int, rB_bool, rC_one, rA_agg, rT_tup, tL_cons, tN_nil, cI_cons, cB_cons, cO_cons, cN_nil, bL_cons, bN_nil, optK_some, lenK_sl, lenK_nsl, List.take_length, List.length_set, tk_set, wrap_i64 ((k : Int) + 1) (by omega) (by omega)]
    rw [h, MX_congr n n _ (fun a b => if a = i ∧ k ≤ b ∧ b < i then 0 else g a b)]
    intro a b _ _
    unfold upm
    grind
theorem l_tri1 {α : Type} (hD : 2 ≤ D) {H : Heap} {n id : Nat} {f} (hH : HM H id n n f) (hn : n ≤ 4096) (N n0 : Nat) (hN : 5000 < N) (K : Int → Int → Int → Int → C → Heap → Option α) :
    ∀ (m q i : Nat) (g : Nat → Nat → Nat), i + m = n → m < q →
      f4_l1 (ev E D) N n0 K q (n : Int) (i : Int) (n : Int) (n : Int) (n : Int) (.sl id 0 (n * n) 1) (H.set id (.mem 2 (u64L (MX n n g)))) =
      K (n : Int) (n : Int) (n : Int) (n : Int) (.sl id 0 (n * n) 1) (H.set id (.mem 2 (u64L (MX n n fun a b => if i ≤ a ∧ b < a then 0 else g a b)))) := by
  intro m
  induction m with
  | zero =>
    intro q k g hk hq
    obtain ⟨q, rfl⟩ : ∃ k', q = k' + 1 := ⟨q - 1, by omega⟩
    rw [f4_l1, decide_eq_false (show ¬ ((k : Int) < n) by omega), c_f]
    rw [MX_congr n n g (fun a b => if k ≤ a ∧ b < a then 0 else g a b) (fun a b ha hb => by rw [if_neg (by omega)])]
  | succ m ih =>
    intro q i g hk hq
    obtain ⟨q, rfl⟩ : ∃ k', q = k' + 1 := ⟨q - 1, by omega⟩
    have h := ih q (i + 1) (fun a b => if a = i ∧ 0 ≤ b ∧ b < i then 0 else g a b) (by omega) (by omega)
    rw [show ((i + 1 : Nat) : Int) = (i : Int) + 1 from rfl] at h
    have h0 := fun K => l_tri0 (α := α) hD hH hn i (by omega) N n0 (n : Int) K i N 0 g (by omega) (by omega)
    rw [show ((0 : Nat) : Int) = 0 from rfl] at h0
    rw [f4_l1, decide_eq_true (show (i : Int) < n by omega), c_t, h0]
    simp only [wrap_i64 ((i : Int) + 1) (by omega) (by omega)]
    rw [h, MX_congr n n _ (fun a b => if i ≤ a ∧ b < a then 0 else g a b)]
    intro a b _ _
    grind

theorem findM_ins (es : List (Int × Bool)) (k x : Int) : findM (insM es k true) x = true → x = k ∨ findM es x = true := by
  induction es with
  | nil =>
    intro h
    simp only [insM, findM] at h
    by_cases hx : x = k
    · exact .inl hx
    · rw [show (x == k) = false from by simpa using hx] at h; cases h
  | cons e es ih =>
    obtain ⟨a, b⟩ := e
    intro h
    simp only [insM] at h
    by_cases hk : k = a
    · rw [show (k == a) = true from by simpa using hk, cond_true] at h
      simp only [findM] at h ⊢
      by_cases hx : x = k
      · exact .inl hx
      · rw [show (x == k) = false from by simpa using hx, cond_false] at h
        rw [show (x == a) = false from by simpa [← hk] using hx, cond_false]
        exact .inr h
    · rw [show (k == a) = false from by simpa using hk, cond_false] at h
      simp only [findM] at h ⊢
      by_cases hx : x = a
      · rw [show (x == a) = true from by simpa using hx, cond_true] at h ⊢
        exact .inr h
      · rw [show (x == a) = false from by simpa using hx, cond_false] at h ⊢
        exact ih h

theorem l_tri2 {α : Type} (hD : 2 ≤ D) {H : Heap} {n id : Nat} {g} (hH : HM H id n n g) (hu : u64M n n g) (hn : n ≤ 4096) (i : Nat) (hin : i < n) (hz : ∀ b, b < i → bKind (g i b) = 1) (N n0 mp : Nat) (x y z : Int) (u v : C) (K0 : Int → Nat → Int → Int → Int → Int → C → C → C → Int → Int → Heap → Option α) (K1 : Heap → Option α) :
    ∀ (m q k : Nat), k + m = i → m < q →
      f4_l2 (ev E D) N n0 K0 K1 q x mp (i : Int) (k : Int) (n : Int) (n : Int) (n : Int) (.sl id 0 (n * n) 1) u v y z H = K0 x mp (i : Int) (n : Int) (n : Int) (n : Int) (.sl id 0 (n * n) 1) u v y z H := by
  intro m
  induction m with
  | zero =>
    intro q k hk hq
    obtain ⟨q, rfl⟩ : ∃ k', q = k' + 1 := ⟨q - 1, by omega⟩
    rw [f4_l2, decide_eq_false (show ¬ ((k : Int) < i) by omega), c_f]
  | succ m ih =>
    intro q k hk hq
    obtain ⟨q, rfl⟩ : ∃ k', q = k' + 1 := ⟨q - 1, by omega⟩
    rw [f4_l2, decide_eq_true (show (k : Int) < i by omega), c_t]
    have h0 : ((bAbs (g i k) : Int) != 0) = false := by
      rw [(abs_zero (g i k)).2 (hz k (by omega))]; rfl
    simp only [s_At hD hH i k hn hn hin (by omega), s_Abs (show 1 ≤ D by omega) (g i k) (hu i k hin (by omega)), ob_some, rI_int, rB_bool, rC_one, rA_agg, rT_tup, tL_cons, tN_nil, cI_cons, cB_cons, cO_cons, cN_nil, bL_cons, bN_nil, optK_some, lenK_sl, lenK_nsl, List.take_length, h0, c_f, wrap_i64 ((k : Int) + 1) (by omega) (by omega)]
    exact ih q (k + 1) (by omega) (by omega)

theorem mapK_of {α : Type} {H : Heap} {mp : Nat} {es} (h : H[mp]? = some (.map es)) (F : List (Int × Bool) → Option α) : mapK H mp F = F es := by
  unfold mapK; rw [List.getD_eq_getElem?_getD, h]; rfl
theorem l_tri3 {α : Type} (hD : 2 ≤ D) {n id idp idw mp : Nat} {g} {σ : Nat → Nat} {w : Nat → Int} (hu : u64M n n g) (hn : n ≤ 4096) (hσ : Prm σ n) (hw : ∀ a, a < n → w a = 0) (hz : ∀ a b, a < n → b < a → bKind (g a b) = 1) (h1 : mp ≠ id) (h2 : mp ≠ idp) (h3 : mp ≠ idw) (N n0 : Nat) (hN : 5000 < N) (y z : Int) (K0 K1 : Heap → Option α) :
    ∀ (m q i : Nat) (H : Heap) (es : List (Int × Bool)), i + m = n → m < q → HM H id n n g → HV H idp n (fun x => (σ x : Int)) → HV H idw n w → H[mp]? = some (.map es) → (∀ x, findM es x = true → ∃ j, j < i ∧ x = (σ j : Int)) →
      ∃ H', f4_l3 (ev E D) N n0 K0 K1 q (n : Int) mp (i : Int) (n : Int) (n : Int) (n : Int) (.sl id 0 (n * n) 1) (.sl idp 0 n 1) (.sl idw 0 n 1) y z H = K0 H' := by
  intro m
  induction m with
  | zero =>
    intro q k H es hk hq hM hP hW hm he
    obtain ⟨q, rfl⟩ : ∃ k', q = k' + 1 := ⟨q - 1, by omega⟩
    exact ⟨H, by rw [f4_l3, decide_eq_false (show ¬ ((k : Int) < n) by omega), c_f]⟩
  | succ m ih =>
    intro q i H es hk hq hM hP hW hm he
    obtain ⟨q, rfl⟩ : ∃ k', q = k' + 1 := ⟨q - 1, by omega⟩
    have hin : i < n := by omega
    have hf : findM es (σ i : Int) = false := by
      apply Bool.eq_false_iff.2
      intro h
      obtain ⟨j, hj, hx⟩ := he _ h
      have := hσ.inj i j hin (by omega) (Int.ofNat.inj hx)
      omega
    have hM' : HM (H.set mp (.map (insM es (σ i : Int) true))) id n n g := HM_other hM h1
    have hP' : HV (H.set mp (.map (insM es (σ i : Int) true))) idp n (fun x => (σ x : Int)) := HV_other hP h2
    have hW' : HV (H.set mp (.map (insM es (σ i : Int) true))) idw n w := HV_other hW h3
    have hm' : (H.set mp (.map (insM es (σ i : Int) true)))[mp]? = some (.map (insM es (σ i : Int) true)) := by
      rw [List.getElem?_set, if_pos rfl, if_pos (List.getElem?_eq_some_iff.1 hm).1]
    obtain ⟨H', hr⟩ := ih q (i + 1) _ _ (by omega) (by omega) hM' hP' hW' hm' (fun x hx => by
      rcases findM_ins es _ x hx with h | h
      · exact ⟨i, by omega, h⟩
      · obtain ⟨j, hj, hx⟩ := he x h
        exact ⟨j, by omega, hx⟩)
    rw [show ((i + 1 : Nat) : Int) = (i : Int) + 1 from rfl] at hr
    refine ⟨H', ?_⟩
    have k2 := fun K0 K1 => l_tri2 (α := α) hD hM' hu hn i hin (fun b hb => hz i b hin hb) N n0 mp (n : Int) y z (.sl idp 0 n 1) (.sl idw 0 n 1) K0 K1 i N 0 (by omega) (by omega)
    rw [show ((0 : Nat) : Int) = 0 from rfl] at k2
    rw [f4_l3, decide_eq_true (show (i : Int) < n by omega), c_t]
    simp only [eltK_sl (α := α) idw 0 n 1 i hin, eltK_sl (α := α) idp 0 n 1 i hin, rdV hW i hin, rdV hP i hin, hw i hin, ob_some, rI_int, rB_bool, rC_one, rA_agg, rT_tup, tL_cons, tN_nil, cI_cons, cB_cons, cO_cons, cN_nil, bL_cons, bN_nil, optK_some, lenK_sl, lenK_nsl, List.take_length, show ((0 : Int) != 0) = false from rfl, c_f, mapK_of hm, hf, k2, wrap_i64 ((i : Int) + 1) (by omega) (by omega)]
    exact hr

theorem max_at (σ : Nat → Nat) (lo hi : Nat) (h : lo < hi) : ∃ i, lo ≤ i ∧ i < hi ∧ ∀ k, lo ≤ k → k < hi → σ k ≤ σ i := by
  obtain ⟨m, rfl⟩ : ∃ m, hi = lo + m + 1 := ⟨hi - lo - 1, by omega⟩
  induction m with
  | zero => exact ⟨lo, by omega, by omega, fun k h1 h2 => by rw [show k = lo from by omega]; exact Nat.le_refl _⟩
  | succ m ih =>
    obtain ⟨i, h1, h2, h3⟩ := ih (by omega)
    by_cases hc : σ i ≤ σ (lo + m + 1)
    · refine ⟨lo + m + 1, by omega, by omega, fun k h4 h5 => ?_⟩
      by_cases hk : k = lo + m + 1
      · rw [hk]; exact Nat.le_refl _
      · exact Nat.le_trans (h3 k h4 (by omega)) hc
    · refine ⟨i, h1, by omega, fun k h4 h5 => ?_⟩
      by_cases hk : k = lo + m + 1
      · rw [hk]; omega
      · exact h3 k h4 (by omega)
theorem ScR.zero {x y : Nat} {q : Int} (h : ScR x y q) : bKind y = 1 ↔ bKind x = 1 := by
  induction h with
  | refl => exact Iff.rfl
  | step p _ _ hf ih => exact (scaleN_kind _ _ hf).trans ih
theorem tri_lohi {n lo hi : Nat} {f g : Nat → Nat → Nat} {σ : Nat → Nat} {w : Nat → Int} (hC : Sc n lo hi f g σ w) (hσ : Prm σ n) (hf : ∀ a b, a < n → b < a → bKind (f a b) = 1) : lo = hi := by
  have hb := hC.zr.bd
  have hl := hC.zr.le
  by_cases h : lo < hi
  case neg => omega
  obtain ⟨i, h1, h2, h3⟩ := max_at σ lo hi h
  exfalso
  refine hC.row i h1 h2 fun k h4 h5 h6 => ?_
  have hlt : σ k < σ i := by
    have := h3 k h4 h5
    rcases Nat.lt_or_ge (σ k) (σ i) with h7 | h7
    · exact h7
    · exact absurd (hσ.inj k i (by omega) (by omega) (by omega)) h6
  exact (ScR.zero (hC.scr i k (by omega) (by omega))).2 (hf _ _ (hσ.lt i (by omega)) hlt)

theorem BalTriangles_pure (a0 : Int) (hw0 : (Lit.int .i64 a0).wf = true) (c1 : C) (l1 : List Int) (hc1 : IsCell .u64 c1 0 l1) (hw1 : ∀ n ∈ l1, (Lit.int .u64 n).wf = true) : ∃ d R' H', ev E d 4 [.one (.int .i64 a0), .one c1] [] [.mem 0 (l1.map (C.int .u64))] = some (.one (.bool true), R', H') := by
  obtain ⟨n, hn, hand⟩ := and7 a0
  have hN : 5000 < E.N := by decide
  obtain ⟨R0, H0, hhead, rfl, htake⟩ := s_head (u64Z l1)
  have hL := Eq.refl (f4 (ev E 12) E.N a0 c1 [.mem 0 (u64Z l1)])
  conv at hL => rhs; unfold f4
  have hlen : ∀ F : Int → Option Res, lenK c1 F = F (l1.length : Int) := by
    intro F
    rcases hc1 with ⟨rfl, rfl⟩ | rfl
    · rfl
    · rfl
  simp only [hhead, ob_some, rI_int, rB_bool, rC_one, rA_agg, rT_tup, tL_cons, tN_nil, cI_cons, cB_cons, cO_cons, cN_nil, bL_cons, bN_nil, optK_some, lenK_sl, lenK_nsl, List.take_length, show List.length [Blk.mem 0 (u64Z l1)] = 1 from rfl, htake, b_nt, c_f, hlen, hand] at hL
  by_cases hl : l1.length ≤ 100
  case neg =>
    rw [decide_eq_true (show (l1.length : Int) > 100 by omega), c_t] at hL
    exact ⟨13, _, _, f4_le hL⟩
  obtain ⟨g0, hu0, hmade⟩ := s_made (D := 12) (by omega) hn c1 hc1 hl hw1 0 (by decide)
  rw [show ((0 : Nat) : Int) = 0 from rfl] at hmade
  rw [decide_eq_false (show ¬ ((l1.length : Int) > 100) by omega), c_f] at hL
  simp only [hmade, ob_some, rI_int, rB_bool, rC_one, rA_agg, rT_tup, tL_cons, tN_nil, cI_cons, cB_cons, cO_cons, cN_nil, bL_cons, bN_nil, optK_some, lenK_sl, lenK_nsl, List.take_length] at hL
  have hM0 : HM [.mem 0 (u64Z l1), .mem 2 (u64L (MX n n g0))] 1 n n g0 := rfl
  have k1 := fun K => l_tri1 (α := Res) (D := 12) (by omega) hM0 (by omega) E.N 1 hN K n E.N 0 g0 (by omega) (by omega)
  rw [set_same hM0] at k1
  rw [show ((0 : Nat) : Int) = 0 from rfl] at k1
  rw [k1] at hL
  have hM : HM ([Blk.mem 0 (u64Z l1), .mem 2 (u64L (MX n n g0))].set 1 (.mem 2 (u64L (MX n n fun a b => if 0 ≤ a ∧ b < a then 0 else g0 a b)))) 1 n n (fun a b => if 0 ≤ a ∧ b < a then 0 else g0 a b) := HM_set hM0
  have hu : u64M n n (fun a b => if 0 ≤ a ∧ b < a then 0 else g0 a b) := by
    intro a b ha hb
    show (if 0 ≤ a ∧ b < a then 0 else g0 a b) < _
    split
    · decide
    · exact hu0 a b ha hb
  have htri : ∀ a b, a < n → b < a → bKind ((fun a b => if 0 ≤ a ∧ b < a then 0 else g0 a b) a b) = 1 := by
    intro a b _ hb
    show bKind (if 0 ≤ a ∧ b < a then 0 else g0 a b) = 1
    rw [if_pos ⟨Nat.zero_le _, hb⟩]; decide
  generalize (fun a b => if 0 ≤ a ∧ b < a then 0 else g0 a b) = f at hM hu htri hL
  generalize ([Blk.mem 0 (u64Z l1), .mem 2 (u64L (MX n n g0))].set 1 (.mem 2 (u64L (MX n n f)))) = H1 at hM hL
  simp only [s_MFinite (D := 12) (by omega) hM hu (show n ≤ 4096 by omega) (show n ≤ 4096 by omega), ob_some, rI_int, rB_bool, rC_one, rA_agg, rT_tup, tL_cons, tN_nil, cI_cons, cB_cons, cO_cons, cN_nil, bL_cons, bN_nil, optK_some, lenK_sl, lenK_nsl, List.take_length] at hL
  by_cases hf : finAll f n n 0
  case neg =>
    rw [decide_eq_false hf, b_nf, c_t] at hL
    exact ⟨13, _, _, f4_le hL⟩
  obtain ⟨lo, hi, H', g, σ, w, hS, hC, hof⟩ := s_Of (D := 12) (by omega) hM hu (by omega) hf
  have hlh := tri_lohi hC hS.isp htri
  subst hlh
  rw [decide_eq_true hf, b_nt, c_f] at hL
  simp only [hof, ob_some, rI_int, rB_bool, rC_one, rA_agg, rT_tup, tL_cons, tN_nil, cI_cons, cB_cons, cO_cons, cN_nil, bL_cons, bN_nil, optK_some, lenK_sl, lenK_nsl, List.take_length] at hL
  rw [show ((0 : Int) != 0) = false from rfl, c_f, show ((lo : Int) != (lo : Int)) = false from by simp, c_f, show ((n : Int) != (n : Int)) = false from by simp, c_f] at hL
  have b1 := HM_bd hS.mat
  have b2 := HV_bound hS.prm
  have b3 := HV_bound hS.pow
  have hwz : ∀ a, a < n → w a = 0 := fun a ha => hC.w0 a ha (by omega)
  have hzz : ∀ a b, a < n → b < a → bKind (g a b) = 1 := fun a b ha hb => by
    by_cases h : b < lo
    · exact hC.zr.col a b ha h hb
    · exact hC.zr.row a b ha (by omega) hb
  obtain ⟨H2, h2⟩ := l_tri3 (α := Res) (D := 12) (by omega) hS.u64 (by omega) hS.isp hwz hzz (mp := List.length H') (by omega) (by omega) (by omega) E.N 1 hN (lo : Int) (lo : Int) (fun h => some (.one (.bool true), [], h)) (fun h => some (.one (.bool false), [], h)) n E.N 0 (H' ++ [Blk.map []]) [] (by omega) (by omega) (HM_app hS.mat) (HV_app hS.prm) (HV_app hS.pow)
    (by rw [List.getElem?_append_right (Nat.le_refl _), Nat.sub_self]; rfl) (fun x hx => by cases hx)
  rw [show ((0 : Nat) : Int) = 0 from rfl] at h2
  rw [h2] at hL
  exact ⟨13, _, _, f4_le hL⟩
end Go.Ev.Try
end

section
set_option linter.all false
/- BalTriangles: whatever the input: it returns true, and each argument reads behind the call as it read before. No condition. -/
namespace Go.Proofs.Ytaipelimefpjlaa.balTriangles
open Go.ChangeShapes Go.WideShapes Go.ChangeAt Go.RowKit
open Go.ChangeMaps (open_string shut_string)
theorem own : ownKnob Try.prog.godebug = none := by kernel_rfl
theorem laidOut : laidOutB Try.prog = true := by kernel_rfl
def IsRow (k : IntKind) (w : World) (a : Option Addr) (len cap : Nat) (zs : List Int) : Prop :=
  (a = none ∧ len = 0 ∧ cap = 0 ∧ zs = []) ∨
  ∃ x, a = some x ∧ len ≤ cap ∧ cap ≤ maxLen ∧ zs.length = cap ∧ (∀ i, i < zs.length → w.cell? (x.add i) = some (.int k (zs.getD i 0))) ∧ ∀ n ∈ zs, (Lit.int k n).wf = true
set_option maxRecDepth 100000 in
theorem lifted (os : Os) (started : os.Started) (H : Type) (enc : TypeId × Value → H) :
    ReturnsInHanded {} Try.checked os 4 .any (Rows.balTrianglesSpec.pre6 enc Try.prog Try.f4 Rows.balTrianglesRow.domain false) (Rows.balTrianglesSpec.post enc Try.prog Try.f4 false true false false) := by
  refine returnsInHanded_of_change_sized (C := Try.checked) own started (by kernel_rfl) Try.func4
    (ChangeSpec.witness6 (enc := enc) (C := Try.checked) false ⟨#[], #[.int .i64 0, .slice none 0 0], []⟩ 8 (by kernel_rfl) (by kernel_rfl) (by kernel_rfl) (by kernel_rfl)) ?_
  intro W base args ds gs before hval0 hW hcnd hsz0 _
  have hval : ∀ (j : Nat) t v, Try.f4.params[j]? = some t → args[j]? = some v → Value.okWide Try.prog W .any base t v := hval0
  have hW' := hW
  obtain ⟨p, q, hA0, hV, rfl, hfz, hnd⟩ := hW
  have hA : DataW.TrodAll enc Try.prog W 0 (fun _ => true) true Try.f4.params.toList args.toList ds p := hA0
  rw [Try.params4] at hA hval
  obtain ⟨v0, vs0, d0, ds0, p0, q0, hargs, rfl, rfl, h0, r0⟩ := trodAll_cons hA
  obtain ⟨v1, vs1, d1, ds1, p1, q1, rfl, rfl, rfl, h1, r1⟩ := trodAll_cons r0
  obtain ⟨rfl, rfl, rfl⟩ := trodAll_nil r1
  obtain rfl : args = #[v0, v1] := by cases args; simp_all
  obtain ⟨rfl, rfl⟩ := trodVars_none hV
  obtain ⟨a0, rfl, rfl, rfl, w0⟩ := open_int Try.underlying3 (hval 0 3 v0 rfl rfl) h0
  have ok1 := (hval 1 22 v1 rfl rfl)
  obtain ⟨a1, len1, cap1, rfl⟩ := okWide_slice Try.underlying22 ok1
  have k1 := h1
  have lt1 : ∀ x ∈ p1, x.block < W.heap.size := by obtain ⟨m, hm⟩ := k1; exact DataW.trod_lt m _ _ _ hm
  obtain ⟨z1, w1⟩ : ∃ zs, IsRow .u64 W a1 len1 cap1 zs := by
    obtain ⟨fuel, hf⟩ := h1
    rcases open_ints Try.underlying22 Try.underlying23 (by kernel_rfl) hf with ⟨hcs, _⟩ | ⟨x, l, c, zs, hcs, _, hl, hm, hz, _, hcell, hwz⟩
    · simp [Value.cells] at hcs
      obtain ⟨rfl, rfl, rfl⟩ := hcs
      exact ⟨[], .inl ⟨rfl, rfl, rfl, rfl⟩⟩
    · simp [Value.cells] at hcs
      obtain ⟨rfl, rfl, rfl⟩ := hcs
      exact ⟨zs, .inr ⟨_, rfl, hl, hm, by simpa using hz, hcell, hwz⟩⟩
  have g1 := Go.Ev.Sl.read Try.underlying22 ok1 w1
  have f1 := Go.Ev.Sl.wf w1
  clear hA0 hval0 hsz0
  obtain ⟨d, R', H', hev⟩ := Go.Ev.Try.BalTriangles_pure a0 w0 (Go.Ev.Sl.cell ⟨.u64, a1, len1, cap1, z1⟩ 0) (z1.take len1) (Go.Ev.Sl.isCell g1 f1.2) f1.1
  refine (Go.Ev.law_walk (w := W) (ars := [.int .i64 a0, .sl ⟨.u64, a1, len1, cap1, z1⟩]) Go.Ev.Try.env_ok (fun _ => rfl) Try.func4 (by kernel_rfl) ?_ hev rfl).mono fun e W' ⟨he, bel⟩ => ?_
  · intro s hs
    simp only [Go.Ev.slsOf, List.mem_cons, List.not_mem_nil, or_false] at hs
    subst hs
    exact g1
  subst he
  exact ⟨_, rfl, _, _, _, [], _, [], hW', trodAll_mk1 (shut_bool Try.underlying4 _), (trodAll_cons_mk (shut_int Try.underlying3 w0) (trodAll_cons_mk (Below.trod laidOut (by kernel_rfl) (of_decide_eq_true (by kernel_rfl)) k1 bel lt1) trodAll_mk0)), rfl, bel.frame _, fun h => by cases h⟩
theorem over : Rows.balTrianglesRow.holds Try.pinned (OpenSpec.ofChange Rows.balTrianglesSpec) :=
  OpenClaim.holds_of_wide 4 Try.f4 rfl rfl rfl rfl rfl rfl rfl ⟨rfl, rfl, rfl, rfl, rfl⟩ rfl rfl rfl rfl rfl (by kernel_rfl) Try.func4 (by kernel_rfl)
    (of_decide_eq_true (by kernel_rfl)) (by unfold Func.isWrapper; first | (rw [if_pos (by decide +kernel)]; kernel_rfl) | (rw [if_neg (by decide +kernel)]; exact ⟨rfl, rfl⟩))
    (fun os started H enc _ => lifted os started H enc)
theorem proved : Rows.BalTrianglesSaid := over
end Go.Proofs.Ytaipelimefpjlaa.balTriangles
namespace Go.Proofs.Ytaipelimefpjlaa
/-- The row, under a short name, for the claim. -/
theorem balTriangles_holds : Rows.BalTrianglesSaid := balTriangles.proved
end Go.Proofs.Ytaipelimefpjlaa
end
