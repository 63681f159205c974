/- milepostalike.Round; milepostref24.Round, at, Small. -/
import Derived.Test.YtemcpldipjbleaaChan
import Derived.BigQuiet
import Derived.Deep.QuietTactic
namespace Mp
/-- k, from 0 to ahead of n -/
def round (k n : Int) : Int := if k.tmod n < 0 then k.tmod n + n else k.tmod n
theorem tmod_bounds (k : Int) {n : Int} (h : 0 < n) : -n < k.tmod n ∧ k.tmod n < n := by
  have h1 := Int.tmod_lt_of_pos k h
  have h2 := Int.tmod_lt_of_pos (-k) h
  rw [Int.neg_tmod] at h2
  omega
theorem round_bounds (k : Int) {n : Int} (h : 0 < n) : 0 ≤ round k n ∧ round k n < n := by
  have := tmod_bounds k h
  unfold round
  split <;> omega
end Mp
namespace Go.Proofs.Ytemcpldipjbleaa
open Go.RowKit

/-- cells that came in as an argument, from an address on, in blocks below B; nothing is said where there are none -/
def Arg (B : Nat) (w : World) (A : Option Addr) (xs : List Value) : Prop :=
  0 < xs.length → ∃ x, A = some x ∧ x.block < B ∧ ∀ j u, xs[j]? = some u → w.cell? (x.add j) = some u
theorem add_block (x : Addr) (j : Nat) : (x.add j).block = x.block := by unfold Addr.add; split <;> rfl
theorem Arg.nil (B : Nat) (w : World) (A : Option Addr) : Arg B w A [] := fun h => absurd h (by simp)
theorem Arg.below {B : Nat} {w w' : World} {A : Option Addr} {xs : List Value} (h : Arg B w A xs) (hb : Below B w w') : Arg B w' A xs := fun h0 => by
  obtain ⟨x, e, hx, hc⟩ := h h0
  exact ⟨x, e, hx, fun j u hu => (hb.cell (p := x.add j) (by rw [add_block]; exact hx)).trans (hc j u hu)⟩
theorem Arg.drew {B : Nat} {w : World} {A : Option Addr} {xs : List Value} (h : Arg B w A xs) : Arg B w.drew A xs := h
theorem Arg.drewN {B : Nat} {w : World} {A : Option Addr} {xs : List Value} (h : Arg B w A xs) (n : Nat) : Arg B (w.drewN n) A xs := h
theorem Arg.cell {B : Nat} {w : World} {A : Option Addr} {xs : List Value} (h : Arg B w A xs) {j : Nat} (hj : j < xs.length) : ∃ x, A = some x ∧ x.block < B ∧ w.cell? (x.add j) = some xs[j] := by
  obtain ⟨x, e, hx, hc⟩ := h (by omega)
  exact ⟨x, e, hx, hc j _ (List.getElem?_eq_getElem hj)⟩
theorem Arg.mono {B B' : Nat} {w : World} {A : Option Addr} {xs : List Value} (h : Arg B w A xs) (hB : B ≤ B') : Arg B' w A xs := fun h0 => by
  obtain ⟨x, e, hx, hc⟩ := h h0
  exact ⟨x, e, Nat.lt_of_lt_of_le hx hB, hc⟩

theorem alikeRound (k n : Int) (h : 0 < n) (hn : n ≤ 1099511627776) (w : World) : Calls Try.prog 9 #[.int .i64 k, .int .i64 n] w fun e w' => e = .returned (.int .i64 (Mp.round k n)) ∧ w = w' := by
  have hb := Mp.tmod_bounds k h
  by_cases hs : k.tmod n < 0
  · have d : decide (k.tmod n < 0) = true := by simpa using hs
    go_enter Try.func9, Try.ntmps9
    go_wp2
    go_ret
    exact ⟨by simp [Mp.round, hs], rfl⟩
  · have e : Mp.round k n = k.tmod n := by unfold Mp.round; rw [if_neg hs]
    have d : decide (k.tmod n < 0) = false := by simpa using hs
    rw [e]
    go_enter Try.func9, Try.ntmps9
    go_wp2
    go_ret
    exact ⟨by simp, rfl⟩

theorem refRound (k n : Int) (h : 0 < n) (hn : n ≤ 1099511627776) (w : World) : Calls Try.prog 45 #[.int .i64 k, .int .i64 n] w fun e w' => e = .returned (.int .i64 (Mp.round k n)) ∧ w = w' := by
  have hb := Mp.tmod_bounds k h
  by_cases hs : k.tmod n < 0
  · have d : decide (k.tmod n < 0) = true := by simpa using hs
    go_enter Try.func45, Try.ntmps45
    go_wp2
    go_ret
    exact ⟨by simp [Mp.round, hs], rfl⟩
  · have e : Mp.round k n = k.tmod n := by unfold Mp.round; rw [if_neg hs]
    have d : decide (k.tmod n < 0) = false := by simpa using hs
    rw [e]
    go_enter Try.func45, Try.ntmps45
    go_wp2
    go_ret
    exact ⟨by simp, rfl⟩

set_option maxRecDepth 100000 in
set_option maxHeartbeats 400000 in
theorem refAt (A : Option Addr) (l : List Int) (c : Nat) (i n : Int) (h : 0 < n) (hn : n ≤ 1000000) (hi : 0 ≤ i) (hi2 : i ≤ 1000000) (hl : l.length ≤ 1000000) (w : World) {B : Nat} (hs : Arg B w A (iv l)) :
    Calls Try.prog 26 #[.slice A l.length c, .int .i64 i, .int .i64 n] w fun e w' => ∃ r, e = .returned (.int .i64 r) ∧ 0 ≤ r ∧ r < n ∧ ∃ k, w' = w.drewN k := by
  by_cases h0 : l.length = 0
  · generalize l.length = L at h0
    subst h0
    go_enter Try.func26, Try.ntmps26
    go_wp2
    go_ret
    exact ⟨0, rfl, by omega, h, 0, rfl⟩
  · obtain ⟨L, hL⟩ : ∃ L, L = l.length := ⟨_, rfl⟩
    have hb := Mp.tmod_bounds i (n := (L : Int)) (by omega)
    have hp : 0 ≤ i.tmod (L : Int) := Int.tmod_nonneg _ hi
    obtain ⟨j, hj⟩ : ∃ j : Nat, i.tmod (L : Int) = j := ⟨(i.tmod (L : Int)).toNat, by omega⟩
    have hjl : j < l.length := by omega
    obtain ⟨xa, rfl, _, hx⟩ := hs.cell (j := j) (by rw [iv_length]; exact hjl)
    obtain ⟨x, hxe⟩ : ∃ x, x = l[j] := ⟨_, rfl⟩
    have hx' : ∀ k, (w.drewN k).cell? (xa.add j) = some (.int .i64 x) := fun k => by show w.cell? _ = _; rw [hx]; simp [iv, hxe]
    have hm := Mp.tmod_bounds x (n := 1000003) (by decide)
    have hd : 0 ≤ i.tdiv (L : Int) := Int.tdiv_nonneg hi (by omega)
    have hd2 : i.tdiv (L : Int) ≤ i := Int.tdiv_le_self _ hi
    have hz : ((L : Int) == 0) = false := by simp; omega
    have hwr : IntKind.i64.wrap (x.tmod 1000003 + i.tdiv (L : Int)) = x.tmod 1000003 + i.tdiv (L : Int) := IntWalk.i64_in _ (by omega)
    have hjL : j < L := by omega
    have hL1 : L ≤ 1000000 := by omega
    have hL0 : 0 < L := by omega
    rw [← hL]
    clear hx hxe hL h0 hjl hl hb hp
    go_enter Try.func26, Try.ntmps26
    have hrb := Mp.round_bounds (x.tmod 1000003 + i.tdiv (L : Int)) h
    go_wp2
    go_quiet ((go_at_call 45; refine Calls.quiet_of_same ((refRound _ _ h (by omega) _).mono fun _ _ hh => ⟨hh.1, hh.2.symm⟩)))
    all_goals
      go_wp2
      go_ret
      exact ⟨_, rfl, hrb.1, hrb.2, _, rfl⟩

theorem Seg.drewN {w : World} {T : TypeId} {A : Option Addr} {xs : List Value} (h : Seg w T A xs) (k : Nat) : Seg (w.drewN k) T A xs := h

set_option maxRecDepth 100000 in
set_option maxHeartbeats 1000000 in
theorem refSmall (A : Option Addr) (l : List Int) (c : Nat) (hl : l.length ≤ 1000000) (w : World) (hs : Arg w.heap.size w A (iv l)) :
    Calls Try.prog 8 #[.slice A l.length c] w fun e w' => ∃ s wi r b cp i, e = .returned (.agg #[.int .i64 s, .int .i64 wi, .int .i64 r, .int .i64 b, .int .i64 cp, .int .i64 i]) ∧ Mp.okCfg ⟨s, wi, r, b, cp, i⟩ = true ∧ Below w.heap.size w w' := by
  have l0 := Blk.newAt w 29 #[.int .i64 0, .int .i64 0, .int .i64 0, .int .i64 0, .int .i64 0, .int .i64 0] _ rfl
  have hs0 : Arg w.heap.size (w.alloc (.cells #[.int .i64 0, .int .i64 0, .int .i64 0, .int .i64 0, .int .i64 0, .int .i64 0] 29)) A (iv l) := hs.below ((Below.refl _ _).alloc (Nat.le_refl _) _)
  go_enter Try.func8, Try.ntmps8
  go_wp2_with fail
  refine (refAt A l c 0 3 (by omega) (by omega) (by omega) (by omega) hl _ hs0).mono ?_
  rintro e w1 ⟨x0, rfl, p0, q0, k0, rfl⟩
  have e0 : wrap64 (1 + x0) = 1 + x0 := IntWalk.wrap64_in _ ⟨by omega, by omega⟩
  go_wp2_with fail
  refine (refAt A l c 1 4 (by omega) (by omega) (by omega) (by omega) hl _ (hs0.drewN _)).mono ?_
  rintro e w2 ⟨x1, rfl, p1, q1, k1, rfl⟩
  have e1 : wrap64 (1 + x1) = 1 + x1 := IntWalk.wrap64_in _ ⟨by omega, by omega⟩
  go_wp2_with fail
  refine (refAt A l c 2 5 (by omega) (by omega) (by omega) (by omega) hl _ (hs0.drewN _)).mono ?_
  rintro e w3 ⟨x2, rfl, p2, q2, k2, rfl⟩
  go_wp2_with fail
  refine (refAt A l c 3 6 (by omega) (by omega) (by omega) (by omega) hl _ (hs0.drewN _)).mono ?_
  rintro e w4 ⟨x3, rfl, p3, q3, k3, hw4⟩
  have e3 : wrap64 (1 + x3) = 1 + x3 := IntWalk.wrap64_in _ ⟨by omega, by omega⟩
  have l4 : Blk w4 w.heap.size 29 #[.int .i64 0, .int .i64 0, .int .i64 0, .int .i64 0, .int .i64 0, .int .i64 0] := by rw [hw4]; exact l0
  have s4 : Arg w.heap.size w4 A (iv l) := by rw [hw4]; exact hs0
  have B4 : Below w.heap.size w w4 := by rw [hw4]; exact (((((Upd.refl [] w).alloc _).drewN _)).drewN _).to_below
  clear hw4 l0 hs0
  go_wp2_with fail
  have m5 := Blk.newAt w4 29 #[.int .i64 (1 + x0), .int .i64 (1 + x1), .int .i64 x2, .int .i64 (1 + x3), .int .i64 0, .int .i64 0] _ rfl
  have l5 := l4.alloc (.cells #[.int .i64 (1 + x0), .int .i64 (1 + x1), .int .i64 x2, .int .i64 (1 + x3), .int .i64 0, .int .i64 0] 29)
  have s5 : Arg w.heap.size (w4.alloc (.cells #[.int .i64 (1 + x0), .int .i64 (1 + x1), .int .i64 x2, .int .i64 (1 + x3), .int .i64 0, .int .i64 0] 29)) A (iv l) := s4.below ((Below.refl _ _).alloc (by have := B4.size; omega) _)
  have B5 := B4.alloc B4.size (.cells #[.int .i64 (1 + x0), .int .i64 (1 + x1), .int .i64 x2, .int .i64 (1 + x3), .int .i64 0, .int .i64 0] 29)
  have hlt := l4.lt
  have hB := B4.size
  generalize hW : w4.alloc (.cells #[.int .i64 (1 + x0), .int .i64 (1 + x1), .int .i64 x2, .int .i64 (1 + x3), .int .i64 0, .int .i64 0] 29) = W at m5 l5 s5 B5 ⊢
  clear hW l4 s4 B4
  generalize hL : w4.heap.size = L at m5 hlt hB ⊢
  obtain ⟨j0, j1, j2, j3, j4, j5⟩ := cells6 m5
  have d3 : W.drew.cell? ⟨L, 3, none⟩ = some (.int .i64 (1 + x3)) := j3
  go_region_with (go_at_call 26; go_loud ((with_reducible refine (refAt A l c 4 10 (by omega) (by omega) (by omega) (by omega) hl W.drew s5.drew).mono ?_); rintro e w6 ⟨x4, rfl, p4, q4, k4, hw6⟩; have e4 : IntKind.i64.wrap (1 + x3 + x4) = 1 + x3 + x4 := IntWalk.i64_in _ (by omega); have m6 : Blk w6 L 29 #[.int .i64 (1 + x0), .int .i64 (1 + x1), .int .i64 x2, .int .i64 (1 + x3), .int .i64 0, .int .i64 0] := hw6.symm ▸ (m5.drew.drewN k4); have n3 : w6.cell? ⟨L, 3, none⟩ = some (.int .i64 (1 + x3)) := m6.cell 3; have n4 : w6.cell? ⟨L, 4, none⟩ = some (.int .i64 0) := m6.cell 4; have n5 : w6.frozen? ⟨L, 4, none⟩ = false := m6.frozen 4; have l6 : Blk w6 w.heap.size 29 #[.int .i64 0, .int .i64 0, .int .i64 0, .int .i64 0, .int .i64 0, .int .i64 0] := hw6.symm ▸ (l5.drew.drewN k4); have s6 : Arg w.heap.size w6 A (iv l) := hw6.symm ▸ ((s5.drew).drewN k4); have B6 : Upd [] w w6 := hw6.symm ▸ (((((Upd.refl [] w).below B5).drew).drewN k4)); clear hw6))
  all_goals
    obtain ⟨m7, u7, k7⟩ := store1 (i := 4) (cs1 := #[.int .i64 (1 + x0), .int .i64 (1 + x1), .int .i64 x2, .int .i64 (1 + x3), .int .i64 (1 + x3 + x4), .int .i64 0]) m6 (.int .i64 (1 + x3 + x4)) _ rfl (by simp)
    have l7 := u7.blk l6 (by simp; omega)
    have s7 := s6.below (upd_below (B := w.heap.size) u7 (by simp; omega) B6.size)
    have B7 := upd_below (B := w.heap.size) u7 (by simp; omega) B6.size
    generalize (w6.setCell ⟨L, 4, none⟩ (.int .i64 (1 + x3 + x4))) = w7 at m7 l7 s7 B7 ⊢
    clear u7 k7 m6 n3 n4 n5
    go_wp2_with fail
    refine (refAt A l c 5 120 (by omega) (by omega) (by omega) (by omega) hl w7 s7).mono ?_
    rintro e w8 ⟨x5, rfl, p5, q5, k5, hw8⟩
    have e5 : wrap64 (5 + x5) = 5 + x5 := IntWalk.wrap64_in _ ⟨by omega, by omega⟩
    have m8 : Blk w8 L 29 #[.int .i64 (1 + x0), .int .i64 (1 + x1), .int .i64 x2, .int .i64 (1 + x3), .int .i64 (1 + x3 + x4), .int .i64 0] := hw8.symm ▸ (m7.drewN k5)
    have l8 : Blk w8 w.heap.size 29 #[.int .i64 0, .int .i64 0, .int .i64 0, .int .i64 0, .int .i64 0, .int .i64 0] := hw8.symm ▸ (l7.drewN k5)
    have B8 : Below w.heap.size w w8 := hw8.symm ▸ (((Upd.of_below (B6.to_below.trans B7) []).drewN k5).to_below)
    clear hw8
    obtain ⟨n0, n1, n2, n3, n4, n5⟩ := cells6 m8
    obtain ⟨t0, t1, t2, t3, t4, t5⟩ := cells6 l8
    have fz : ∀ i, w8.frozen? ⟨L, i, none⟩ = false := fun i => m8.frozen i
    have fy : ∀ i, w8.frozen? ⟨w.heap.size, i, none⟩ = false := fun i => l8.frozen i
    have hne : w.heap.size ≠ L := by omega
    have hne2 : L ≠ w.heap.size := by omega
    go_wp2
    obtain ⟨m9, u9, k9⟩ := store1 (i := 5) (cs1 := #[.int .i64 (1 + x0), .int .i64 (1 + x1), .int .i64 x2, .int .i64 (1 + x3), .int .i64 (1 + x3 + x4), .int .i64 (5 + x5)]) m8 (.int .i64 (5 + x5)) _ rfl (by simp)
    have l9 := u9.blk l8 (by simp; omega)
    obtain ⟨g1, g2, g3⟩ := set6 l9 (.int .i64 (1 + x0)) (.int .i64 (1 + x1)) (.int .i64 x2) (.int .i64 (1 + x3)) (.int .i64 (1 + x3 + x4)) (.int .i64 (5 + x5)) _ rfl
    obtain ⟨i0, i1, i2, i3, i4, i5⟩ := cells6 g1
    refine bodyPost_ret (v := .agg #[.int .i64 (1 + x0), .int .i64 (1 + x1), .int .i64 x2, .int .i64 (1 + x3), .int .i64 (1 + x3 + x4), .int .i64 (5 + x5)]) (by simp [results, Try.f8, go_sem, i0, i1, i2, i3, i4, i5]) rfl ?_
    refine ⟨_, _, _, _, _, _, rfl, ?_, (B8.trans (upd_below u9 (by simp; omega) B8.size)).trans (upd_below g2 (by simp) (by have := B8.size; have := u9.size; omega))⟩
    simp only [Mp.okCfg, Mp.within, Bool.and_eq_true, decide_eq_true_eq]
    omega
end Go.Proofs.Ytemcpldipjbleaa
