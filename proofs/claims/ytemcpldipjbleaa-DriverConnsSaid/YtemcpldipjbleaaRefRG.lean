/- milepostref1.ReadGram. -/
import Derived.Test.YtemcpldipjbleaaRefU
import Derived.Test.YtemcpldipjbleaaGramD
namespace Go.Proofs.Ytemcpldipjbleaa
open Go.RowKit
attribute [local go_sem ↓] Go.wp_at_zero Go.wp_at_succ

theorem IsQ.upd {w w' : World} {g : Nat} {s : Mp.Bytes × Bool} {F : List Nat} (h : IsQ w g s) (hu : Upd F w w') (hk : Keep 5 w w') (hg : g ∉ F) : IsQ w' g s := by
  obtain ⟨A, c, h1, h2, h3, h4⟩ := h
  exact ⟨A, c, hu.blk h1 hg, h2, h3, h4.keep hk⟩

set_option maxRecDepth 100000 in
set_option maxHeartbeats 400000 in
theorem refReadNone (A : Option Addr) (b : Mp.Bytes) (c : Nat) (w : World) (hs : Seg w 5 A (bv b)) (hcap : b.length ≤ c) (hb : b.length ≤ 35184372088832) (hn : Mp.unwrap b = none) :
    Calls Try.prog 14 #[.slice A b.length c] w (RetG w (Mp.gramDecR b)) := by
  have HU := Lib.hid (refUnwrap A b c (w.alloc (.cells #[.int .i64 0, .int .i64 0, .int .i64 0, .int .i64 0, .int .i64 0, .slice none 0 0] 38)) (hs.alloc _) hb hcap)
  rw [hn] at HU
  have HR := Lib.hid (show Mp.gramDecR b = none by unfold Mp.gramDecR; rw [hn])
  rw [HR.out]
  clear hn
  have l0 := Blk.newAt w 38 #[.int .i64 0, .int .i64 0, .int .i64 0, .int .i64 0, .int .i64 0, .slice none 0 0] _ rfl
  go_enter Try.func14, Try.ntmps14
  go_wp2_with (go_at_call 30; (with_reducible refine HU.out.mono ?_); rintro e w1 ⟨b1, k, hk, rfl⟩; have l1 := l0.below b1 l0.lt; obtain ⟨k0, k1, k2, k3, k4, k5⟩ := cells6 l1; have fz : ∀ i, w1.frozen? ⟨w.heap.size, i, none⟩ = false := fun i => l1.frozen i; have hk2 : (k != 0) = true := by simpa using hk)
  obtain ⟨q1, q2, q3⟩ := set6 l1 (.int .i64 0) (.int .i64 0) (.int .i64 0) (.int .i64 0) (.int .i64 0) (.slice none 0 0) _ rfl
  obtain ⟨k0, k1, k2, k3, k4, k5⟩ := cells6 q1
  refine bodyPost_ret (v := .tuple #[.agg #[.int .i64 0, .int .i64 0, .int .i64 0, .int .i64 0, .int .i64 0, .slice none 0 0], .int .i64 k]) (by simp [results, Try.f14, go_sem, k0, k1, k2, k3, k4, k5]) rfl ?_
  refine ⟨?_, k, hk, rfl⟩
  exact upd_below (((Upd.refl [w.heap.size] w).alloc _).below b1 |>.trans q2 (by simp)) (by simp) (Nat.le_refl _)

-- printed by genrefrg.py

theorem refNum1 {w : World} {g : Nat} {s : Mp.Bytes × Bool} (hr : IsQ w g s) : Calls Try.prog 31 #[.pointer (some ⟨g, 0, none⟩), .int .i64 1] w fun e w' => e = .returned (.int .i64 (Mp.rnum 1 s).1) ∧ IsQ w' g (Mp.rnum 1 s).2 ∧ Upd [g] w w' ∧ Keep 5 w w' := refNum hr 1 (by omega) (by omega)
theorem refNum2 {w : World} {g : Nat} {s : Mp.Bytes × Bool} (hr : IsQ w g s) : Calls Try.prog 31 #[.pointer (some ⟨g, 0, none⟩), .int .i64 2] w fun e w' => e = .returned (.int .i64 (Mp.rnum 2 s).1) ∧ IsQ w' g (Mp.rnum 2 s).2 ∧ Upd [g] w w' ∧ Keep 5 w w' := refNum hr 2 (by omega) (by omega)
theorem refNum4 {w : World} {g : Nat} {s : Mp.Bytes × Bool} (hr : IsQ w g s) : Calls Try.prog 31 #[.pointer (some ⟨g, 0, none⟩), .int .i64 4] w fun e w' => e = .returned (.int .i64 (Mp.rnum 4 s).1) ∧ IsQ w' g (Mp.rnum 4 s).2 ∧ Upd [g] w w' ∧ Keep 5 w w' := refNum hr 4 (by omega) (by omega)
theorem refNum5 {w : World} {g : Nat} {s : Mp.Bytes × Bool} (hr : IsQ w g s) : Calls Try.prog 31 #[.pointer (some ⟨g, 0, none⟩), .int .i64 5] w fun e w' => e = .returned (.int .i64 (Mp.rnum 5 s).1) ∧ IsQ w' g (Mp.rnum 5 s).2 ∧ Upd [g] w w' ∧ Keep 5 w w' := refNum hr 5 (by omega) (by omega)

/-- a read, and a store of what was read into the block G -/
theorem refReadStep {w W W2 : World} {Q R G : Nat} {s : Mp.Bytes × Bool} {l m m2 : Array Value} {B : Nat} {j : Nat} {v : Value} (q : IsQ W Q s) (u : Upd [Q] w W) (k : Keep 5 w W) (hl : Blk w R 38 l) (hm : Blk w G 38 m) (hR : R < Q) (hG : Q < G) (_ : B ≤ R)
    (hW2 : W2 = W.setCell ⟨G, j, none⟩ v) (hm2 : m.setIfInBounds j v = m2) : IsQ W2 Q s ∧ Blk W2 R 38 l ∧ Blk W2 G 38 m2 ∧ Upd [Q, G] w W2 ∧ Keep 5 w W2 := by
  subst hW2
  have a1 : G ∉ [Q] := by intro h; simp at h; omega
  have a2 : R ∉ [Q] := by intro h; simp at h; omega
  have a3 : Q ∉ [G] := by intro h; simp at h; omega
  have a4 : R ∉ [G] := by intro h; simp at h; omega
  have m1 := u.blk hm a1
  obtain ⟨n1, n2, n3⟩ := store1 (i := j) m1 v _ rfl hm2
  exact ⟨q.upd n2 (n3 _ (by decide)) a3, n2.blk (u.blk hl a2) a4, n1, (u.mono (G := [Q, G]) (by intro k hk _; simp at hk ⊢; exact .inl hk)).trans n2 (by intro k hk; simp at hk; subst hk; exact .inl (by simp)), k.trans (n3 _ (by decide))⟩
theorem rleft_nonneg (s : Mp.Bytes × Bool) : 0 ≤ Mp.rleft s := by unfold Mp.rleft; split <;> omega

set_option maxRecDepth 100000 in
set_option maxHeartbeats 1000000 in
theorem refRead1 (A : Option Addr) (b : Mp.Bytes) (c : Nat) (w : World) (hs : Seg w 5 A (bv b)) (hcap : b.length ≤ c) (hb : b.length ≤ 35184372088832) (body : Mp.Bytes) (hn : Mp.unwrap b = some (1, body)) :
    Calls Try.prog 14 #[.slice A b.length c] w (RetG w (Mp.gramDecR b)) := by
  have HU := Lib.hid (refUnwrap A b c (w.alloc (.cells #[.int .i64 0, .int .i64 0, .int .i64 0, .int .i64 0, .int .i64 0, .slice none 0 0] 38)) (hs.alloc _) hb hcap)
  rw [hn] at HU
  have hbl := Mp.unwrap_len hn
  obtain ⟨cn, s1, e1⟩ : ∃ x y, Mp.rnum 4 (body, false) = (x, y) := ⟨_, _, rfl⟩
  have n1 := Mp.rnum_len 4 (body, false)
  rw [e1] at n1
  obtain ⟨sq, s2, e2⟩ : ∃ x y, Mp.rnum 4 s1 = (x, y) := ⟨_, _, rfl⟩
  have n2 := Mp.rnum_len 4 s1
  rw [e2] at n2
  obtain ⟨ak, s3, e3⟩ : ∃ x y, Mp.rnum 4 s2 = (x, y) := ⟨_, _, rfl⟩
  have n3 := Mp.rnum_len 4 s2
  rw [e3] at n3
  obtain ⟨bd, s4, e4⟩ : ∃ x y, Mp.rraw (Mp.rleft s3) s3 = (x, y) := ⟨_, _, rfl⟩
  have n4 := Mp.rraw_len (Mp.rleft s3) s3
  rw [e4] at n4
  simp only at n1 n2 n3 n4
  have HR := Lib.hid (show Mp.gramDecR b = if s4.2 = false ∧ s4.1.length = 0 then some ⟨cn, 1, sq, ak, 0, bd⟩ else none by
    unfold Mp.gramDecR
    rw [hn]
    simp only [Mp.gramRead, e1, e2, e3, e4]
    rfl)
  have E1 := Lib.hid e1
  have E2 := Lib.hid e2
  have E3 := Lib.hid e3
  have E4 := Lib.hid e4
  clear hn e1 e2 e3 e4
  have l0 := Blk.newAt w 38 #[.int .i64 0, .int .i64 0, .int .i64 0, .int .i64 0, .int .i64 0, .slice none 0 0] _ rfl
  go_enter Try.func14, Try.ntmps14
  go_wp2_with fail
  (with_reducible refine HU.out.mono ?_)
  rintro e w1 ⟨b1, A1, c1, rfl, o1, f1⟩
  have l1 := l0.below b1 l0.lt
  have hcl := o1.le
  have b1' : Below w.heap.size w w1 := ((Below.refl _ w).alloc (Nat.le_refl _) _).trans (b1.mono (by simp))
  have hz := l1.lt
  have l2 := (l1.alloc (.cells #[.slice A1 body.length c1, .bool false] 76)).alloc (.cells #[.int .i64 0, .int .i64 1, .int .i64 0, .int .i64 0, .int .i64 0, .slice none 0 0] 38)
  have q2 : IsQ ((w1.alloc (.cells #[.slice A1 body.length c1, .bool false] 76)).alloc (.cells #[.int .i64 0, .int .i64 1, .int .i64 0, .int .i64 0, .int .i64 0, .slice none 0 0] 38)) w1.heap.size (body, false) :=
    ⟨A1, c1, (Blk.new w1 _ _).alloc _, hcl, trivial, (o1.seg.alloc _).alloc _⟩
  have m2 := Blk.newAt (w1.alloc (.cells #[.slice A1 body.length c1, .bool false] 76)) 38 #[.int .i64 0, .int .i64 1, .int .i64 0, .int .i64 0, .int .i64 0, .slice none 0 0] (w1.heap.size + 1) (by simp)
  have B2 : Below w.heap.size w ((w1.alloc (.cells #[.slice A1 body.length c1, .bool false] 76)).alloc (.cells #[.int .i64 0, .int .i64 1, .int .i64 0, .int .i64 0, .int .i64 0, .slice none 0 0] 38)) := (b1'.alloc b1'.size _).alloc (by have := b1'.size; simp; omega) _
  have f2 : ∀ a, A1 = some a → 0 < body.length → w.heap.size ≤ a.block := fun a ha hb0 => by
    obtain ⟨g0, o0, cur, hA0, _⟩ := o1.row (by omega)
    have := f1 g0 (by rw [hA0]; simp [fp]; omega)
    rw [ha] at hA0; injection hA0 with hA0; subst hA0; simp at this; simp; omega
  go_wp2_with fail
  (with_reducible refine (refNum4 q2).mono ?_)
  rw [E1.out]
  rintro e w3' ⟨rfl, q3', u3', k3'⟩
  have x3 : w3'.cell? ⟨w1.heap.size + 1, 0, none⟩ = some (.int .i64 0) := (u3'.blk m2 (by simp)).cell 0
  have y3 : w3'.frozen? ⟨w1.heap.size + 1, 0, none⟩ = false := (u3'.blk m2 (by simp)).frozen 0
  obtain ⟨w3, hw3⟩ : ∃ W, W = w3'.setCell ⟨w1.heap.size + 1, 0, none⟩ (.int .i64 cn) := ⟨_, rfl⟩
  obtain ⟨q3, l3, m3, u3, k3⟩ := refReadStep (m2 := #[.int .i64 cn, .int .i64 1, .int .i64 0, .int .i64 0, .int .i64 0, .slice none 0 0]) (B := w.heap.size) q3' u3' k3' l2 m2 hz (Nat.lt_succ_self _) (Nat.le_refl _) hw3 (by simp)
  have B3 : Below w.heap.size w w3 := B2.trans (upd_below u3 (by intro k hk; simp at hk; omega) B2.size)
  have W3 := Lib.hid hw3
  clear hw3 u3 q3' u3' k3' q2 l2 m2 B2
  go_wp2_with fail
  rw [← W3.out]
  clear W3 x3 y3
  (with_reducible refine (refNum4 q3).mono ?_)
  rw [E2.out]
  rintro e w4' ⟨rfl, q4', u4', k4'⟩
  have x4 : w4'.cell? ⟨w1.heap.size + 1, 2, none⟩ = some (.int .i64 0) := (u4'.blk m3 (by simp)).cell 2
  have y4 : w4'.frozen? ⟨w1.heap.size + 1, 2, none⟩ = false := (u4'.blk m3 (by simp)).frozen 2
  obtain ⟨w4, hw4⟩ : ∃ W, W = w4'.setCell ⟨w1.heap.size + 1, 2, none⟩ (.int .i64 sq) := ⟨_, rfl⟩
  obtain ⟨q4, l4, m4, u4, k4⟩ := refReadStep (m2 := #[.int .i64 cn, .int .i64 1, .int .i64 sq, .int .i64 0, .int .i64 0, .slice none 0 0]) (B := w.heap.size) q4' u4' k4' l3 m3 hz (Nat.lt_succ_self _) (Nat.le_refl _) hw4 (by simp)
  have B4 : Below w.heap.size w w4 := B3.trans (upd_below u4 (by intro k hk; simp at hk; omega) B3.size)
  have W4 := Lib.hid hw4
  clear hw4 u4 q4' u4' k4' q3 l3 m3 B3
  go_wp2_with fail
  rw [← W4.out]
  clear W4 x4 y4
  (with_reducible refine (refNum4 q4).mono ?_)
  rw [E3.out]
  rintro e w5' ⟨rfl, q5', u5', k5'⟩
  have x5 : w5'.cell? ⟨w1.heap.size + 1, 3, none⟩ = some (.int .i64 0) := (u5'.blk m4 (by simp)).cell 3
  have y5 : w5'.frozen? ⟨w1.heap.size + 1, 3, none⟩ = false := (u5'.blk m4 (by simp)).frozen 3
  obtain ⟨w5, hw5⟩ : ∃ W, W = w5'.setCell ⟨w1.heap.size + 1, 3, none⟩ (.int .i64 ak) := ⟨_, rfl⟩
  obtain ⟨q5, l5, m5, u5, k5⟩ := refReadStep (m2 := #[.int .i64 cn, .int .i64 1, .int .i64 sq, .int .i64 ak, .int .i64 0, .slice none 0 0]) (B := w.heap.size) q5' u5' k5' l4 m4 hz (Nat.lt_succ_self _) (Nat.le_refl _) hw5 (by simp)
  have B5 : Below w.heap.size w w5 := B4.trans (upd_below u5 (by intro k hk; simp at hk; omega) B4.size)
  have W5 := Lib.hid hw5
  clear hw5 u5 q5' u5' k5' q4 l4 m4 B4
  go_wp2_with fail
  rw [← W5.out]
  clear W5 x5 y5
  (with_reducible refine (refLeft q5).mono ?_)
  rintro e w9 ⟨rfl, rfl⟩
  go_wp2_with fail
  obtain ⟨N, hN⟩ := Int.eq_ofNat_of_zero_le (rleft_nonneg s3)
  have HRaw := refRaw q5 N (by omega)
  have EN := E4.out
  rw [hN] at EN
  rw [EN] at HRaw
  have HRaw := Lib.hid HRaw
  rw [hN]
  clear hN EN
  (with_reducible refine HRaw.out.mono ?_)
  rintro e w6' ⟨A3, c3, rfl, o3, f3, q6', u6'⟩
  simp only at o3 q6'
  have x6 : w6'.cell? ⟨w1.heap.size + 1, 5, none⟩ = some (.slice none 0 0) := (u6'.blk m5 (by simp)).cell 5
  have y6 : w6'.frozen? ⟨w1.heap.size + 1, 5, none⟩ = false := (u6'.blk m5 (by simp)).frozen 5
  have k6' : Keep 5 w5 w6' := Keep.of_upd u6' (fun k hk => by
    simp at hk; subst hk; obtain ⟨_, _, hq, _⟩ := q5; exact blk_not hq (by decide))
  obtain ⟨w6, hw6⟩ : ∃ W, W = w6'.setCell ⟨w1.heap.size + 1, 5, none⟩ (.slice A3 bd.length c3) := ⟨_, rfl⟩
  obtain ⟨q6, l6, m6, u6, k6⟩ := refReadStep (m2 := #[.int .i64 cn, .int .i64 1, .int .i64 sq, .int .i64 ak, .int .i64 0, .slice A3 bd.length c3]) (B := w.heap.size) q6' u6' k6' l5 m5 hz (Nat.lt_succ_self _) (Nat.le_refl _) hw6 (by simp)
  have o4 : OwnS w6 5 1 A3 bd.length c3 (bv bd) := by
    rw [hw6]
    exact o3.keep ((Keep.refl 5 w6').setCell (u6'.blk m5 (by simp)) (by decide) 5 _)
  have B6 : Below w.heap.size w w6 := B5.trans (upd_below u6 (by intro k hk; simp at hk; omega) B5.size)
  have hz9 := B5.size
  have W6 := Lib.hid hw6
  clear hw6 u6 q6' u6' k6' q5 l5 m5 B5 o3
  go_wp2_with fail
  rw [← W6.out]
  clear W6 x6 y6
  have HD := refDone q6
  obtain ⟨t, sp⟩ := s4
  simp only at HD HR
  (with_reducible refine HD.mono ?_)
  rintro e w9 ⟨rfl, nd, hw9⟩
  have l10 := l6.drewN nd
  have m10 := m6.drewN nd
  have B10 : Below w.heap.size w (w6.drewN nd) := (Upd.of_below B6 []).drewN nd |>.to_below
  rw [← hw9] at l10 m10 B10
  obtain ⟨t0, t1, t2, t3, t4, t5⟩ := cells6 l10
  obtain ⟨j0, j1, j2, j3, j4, j5⟩ := cells6 m10
  have fz : ∀ i, w9.frozen? ⟨w.heap.size, i, none⟩ = false := fun i => l10.frozen i
  have hne : w.heap.size ≠ w1.heap.size + 1 := by omega
  have KK : Keep 5 w6 w9 := by rw [hw9]; exact (Keep.refl _ _).drewN nd
  clear hw9
  by_cases hok : sp = false ∧ t.length = 0
  · have HR2 := Lib.hid (show Mp.gramDecR b = some ⟨cn, 1, sq, ak, 0, bd⟩ by rw [HR.out, if_pos hok])
    have hd : (!sp && t.length == 0) = true := by rw [hok.1]; simp [hok.2]
    rw [hd]
    clear hok hd HR
    go_wp2_with fail
    obtain ⟨g1, g2, g3⟩ := set6 l10 (.int .i64 cn) (.int .i64 1) (.int .i64 sq) (.int .i64 ak) (.int .i64 0) (.slice A3 bd.length c3) _ rfl
    obtain ⟨i0, i1, i2, i3, i4, i5⟩ := cells6 g1
    refine bodyPost_ret (v := .tuple #[.agg #[.int .i64 cn, .int .i64 1, .int .i64 sq, .int .i64 ak, .int .i64 0, .slice A3 bd.length c3], .int .i64 0]) (by simp [results, Try.f14, go_sem, i0, i1, i2, i3, i4, i5]) rfl ?_
    rw [HR2.out]
    refine ⟨B10.trans (upd_below g2 (by simp) (by have := B10.size; omega)), A3, c3, rfl, o4.le, (o4.seg.keep KK).keep (g3 _ (by decide)), fun a ha h0 => ?_⟩
    have h0' : 0 < c3 := by have := o4.le; simp only at h0; omega
    obtain ⟨g0, o0, cur, hA0, _⟩ := o4.row h0'
    have := f3 g0 (by rw [hA0]; simp [fp]; omega)
    rw [ha] at hA0; injection hA0 with hA0; subst hA0
    exact Nat.le_trans hz9 this
  · have HR2 := Lib.hid (show Mp.gramDecR b = none by rw [HR.out, if_neg hok])
    have hd : (!sp && t.length == 0) = false := by
      cases sp
      · simpa using hok
      · rfl
    rw [hd]
    clear hok hd HR
    go_wp2_with fail
    obtain ⟨g1, g2, g3⟩ := set6 l10 (.int .i64 0) (.int .i64 0) (.int .i64 0) (.int .i64 0) (.int .i64 0) (.slice none 0 0) _ rfl
    obtain ⟨i0, i1, i2, i3, i4, i5⟩ := cells6 g1
    refine bodyPost_ret (v := .tuple #[.agg #[.int .i64 0, .int .i64 0, .int .i64 0, .int .i64 0, .int .i64 0, .slice none 0 0], .int .i64 2]) (by simp [results, Try.f14, go_sem, i0, i1, i2, i3, i4, i5]) rfl ?_
    rw [HR2.out]
    exact ⟨B10.trans (upd_below g2 (by simp) (by have := B10.size; omega)), 2, by decide, rfl⟩

set_option maxRecDepth 100000 in
set_option maxHeartbeats 1000000 in
theorem refRead2 (A : Option Addr) (b : Mp.Bytes) (c : Nat) (w : World) (hs : Seg w 5 A (bv b)) (hcap : b.length ≤ c) (hb : b.length ≤ 35184372088832) (body : Mp.Bytes) (hn : Mp.unwrap b = some (2, body)) :
    Calls Try.prog 14 #[.slice A b.length c] w (RetG w (Mp.gramDecR b)) := by
  have HU := Lib.hid (refUnwrap A b c (w.alloc (.cells #[.int .i64 0, .int .i64 0, .int .i64 0, .int .i64 0, .int .i64 0, .slice none 0 0] 38)) (hs.alloc _) hb hcap)
  rw [hn] at HU
  have hbl := Mp.unwrap_len hn
  obtain ⟨cn, s1, e1⟩ : ∃ x y, Mp.rnum 4 (body, false) = (x, y) := ⟨_, _, rfl⟩
  have n1 := Mp.rnum_len 4 (body, false)
  rw [e1] at n1
  obtain ⟨ak, s2, e2⟩ : ∃ x y, Mp.rnum 4 s1 = (x, y) := ⟨_, _, rfl⟩
  have n2 := Mp.rnum_len 4 s1
  rw [e2] at n2
  simp only at n1 n2
  have HR := Lib.hid (show Mp.gramDecR b = if s2.2 = false ∧ s2.1.length = 0 then some ⟨cn, 2, 0, ak, 0, []⟩ else none by
    unfold Mp.gramDecR
    rw [hn]
    simp only [Mp.gramRead, e1, e2]
    rfl)
  have E1 := Lib.hid e1
  have E2 := Lib.hid e2
  clear hn e1 e2
  have l0 := Blk.newAt w 38 #[.int .i64 0, .int .i64 0, .int .i64 0, .int .i64 0, .int .i64 0, .slice none 0 0] _ rfl
  go_enter Try.func14, Try.ntmps14
  go_wp2_with fail
  (with_reducible refine HU.out.mono ?_)
  rintro e w1 ⟨b1, A1, c1, rfl, o1, f1⟩
  have l1 := l0.below b1 l0.lt
  have hcl := o1.le
  have b1' : Below w.heap.size w w1 := ((Below.refl _ w).alloc (Nat.le_refl _) _).trans (b1.mono (by simp))
  have hz := l1.lt
  have l2 := (l1.alloc (.cells #[.slice A1 body.length c1, .bool false] 76)).alloc (.cells #[.int .i64 0, .int .i64 2, .int .i64 0, .int .i64 0, .int .i64 0, .slice none 0 0] 38)
  have q2 : IsQ ((w1.alloc (.cells #[.slice A1 body.length c1, .bool false] 76)).alloc (.cells #[.int .i64 0, .int .i64 2, .int .i64 0, .int .i64 0, .int .i64 0, .slice none 0 0] 38)) w1.heap.size (body, false) :=
    ⟨A1, c1, (Blk.new w1 _ _).alloc _, hcl, trivial, (o1.seg.alloc _).alloc _⟩
  have m2 := Blk.newAt (w1.alloc (.cells #[.slice A1 body.length c1, .bool false] 76)) 38 #[.int .i64 0, .int .i64 2, .int .i64 0, .int .i64 0, .int .i64 0, .slice none 0 0] (w1.heap.size + 1) (by simp)
  have B2 : Below w.heap.size w ((w1.alloc (.cells #[.slice A1 body.length c1, .bool false] 76)).alloc (.cells #[.int .i64 0, .int .i64 2, .int .i64 0, .int .i64 0, .int .i64 0, .slice none 0 0] 38)) := (b1'.alloc b1'.size _).alloc (by have := b1'.size; simp; omega) _
  have f2 : ∀ a, A1 = some a → 0 < body.length → w.heap.size ≤ a.block := fun a ha hb0 => by
    obtain ⟨g0, o0, cur, hA0, _⟩ := o1.row (by omega)
    have := f1 g0 (by rw [hA0]; simp [fp]; omega)
    rw [ha] at hA0; injection hA0 with hA0; subst hA0; simp at this; simp; omega
  go_wp2_with fail
  (with_reducible refine (refNum4 q2).mono ?_)
  rw [E1.out]
  rintro e w3' ⟨rfl, q3', u3', k3'⟩
  have x3 : w3'.cell? ⟨w1.heap.size + 1, 0, none⟩ = some (.int .i64 0) := (u3'.blk m2 (by simp)).cell 0
  have y3 : w3'.frozen? ⟨w1.heap.size + 1, 0, none⟩ = false := (u3'.blk m2 (by simp)).frozen 0
  obtain ⟨w3, hw3⟩ : ∃ W, W = w3'.setCell ⟨w1.heap.size + 1, 0, none⟩ (.int .i64 cn) := ⟨_, rfl⟩
  obtain ⟨q3, l3, m3, u3, k3⟩ := refReadStep (m2 := #[.int .i64 cn, .int .i64 2, .int .i64 0, .int .i64 0, .int .i64 0, .slice none 0 0]) (B := w.heap.size) q3' u3' k3' l2 m2 hz (Nat.lt_succ_self _) (Nat.le_refl _) hw3 (by simp)
  have B3 : Below w.heap.size w w3 := B2.trans (upd_below u3 (by intro k hk; simp at hk; omega) B2.size)
  have W3 := Lib.hid hw3
  clear hw3 u3 q3' u3' k3' q2 l2 m2 B2
  go_wp2_with fail
  rw [← W3.out]
  clear W3 x3 y3
  (with_reducible refine (refNum4 q3).mono ?_)
  rw [E2.out]
  rintro e w4' ⟨rfl, q4', u4', k4'⟩
  have x4 : w4'.cell? ⟨w1.heap.size + 1, 3, none⟩ = some (.int .i64 0) := (u4'.blk m3 (by simp)).cell 3
  have y4 : w4'.frozen? ⟨w1.heap.size + 1, 3, none⟩ = false := (u4'.blk m3 (by simp)).frozen 3
  obtain ⟨w4, hw4⟩ : ∃ W, W = w4'.setCell ⟨w1.heap.size + 1, 3, none⟩ (.int .i64 ak) := ⟨_, rfl⟩
  obtain ⟨q4, l4, m4, u4, k4⟩ := refReadStep (m2 := #[.int .i64 cn, .int .i64 2, .int .i64 0, .int .i64 ak, .int .i64 0, .slice none 0 0]) (B := w.heap.size) q4' u4' k4' l3 m3 hz (Nat.lt_succ_self _) (Nat.le_refl _) hw4 (by simp)
  have B4 : Below w.heap.size w w4 := B3.trans (upd_below u4 (by intro k hk; simp at hk; omega) B3.size)
  have W4 := Lib.hid hw4
  clear hw4 u4 q4' u4' k4' q3 l3 m3 B3
  go_wp2_with fail
  rw [← W4.out]
  clear W4 x4 y4
  have HD := refDone q4
  obtain ⟨t, sp⟩ := s2
  simp only at HD HR
  (with_reducible refine HD.mono ?_)
  rintro e w9 ⟨rfl, nd, hw9⟩
  have l10 := l4.drewN nd
  have m10 := m4.drewN nd
  have B10 : Below w.heap.size w (w4.drewN nd) := (Upd.of_below B4 []).drewN nd |>.to_below
  rw [← hw9] at l10 m10 B10
  obtain ⟨t0, t1, t2, t3, t4, t5⟩ := cells6 l10
  obtain ⟨j0, j1, j2, j3, j4, j5⟩ := cells6 m10
  have fz : ∀ i, w9.frozen? ⟨w.heap.size, i, none⟩ = false := fun i => l10.frozen i
  have hne : w.heap.size ≠ w1.heap.size + 1 := by omega
  have KK : Keep 5 w4 w9 := by rw [hw9]; exact (Keep.refl _ _).drewN nd
  clear hw9
  by_cases hok : sp = false ∧ t.length = 0
  · have HR2 := Lib.hid (show Mp.gramDecR b = some ⟨cn, 2, 0, ak, 0, []⟩ by rw [HR.out, if_pos hok])
    have hd : (!sp && t.length == 0) = true := by rw [hok.1]; simp [hok.2]
    rw [hd]
    clear hok hd HR
    go_wp2_with fail
    obtain ⟨g1, g2, g3⟩ := set6 l10 (.int .i64 cn) (.int .i64 2) (.int .i64 0) (.int .i64 ak) (.int .i64 0) (.slice none 0 0) _ rfl
    obtain ⟨i0, i1, i2, i3, i4, i5⟩ := cells6 g1
    refine bodyPost_ret (v := .tuple #[.agg #[.int .i64 cn, .int .i64 2, .int .i64 0, .int .i64 ak, .int .i64 0, .slice none 0 0], .int .i64 0]) (by simp [results, Try.f14, go_sem, i0, i1, i2, i3, i4, i5]) rfl ?_
    rw [HR2.out]
    refine ⟨B10.trans (upd_below g2 (by simp) (by have := B10.size; omega)), none, 0, rfl, by simp, Seg.nil _ _ _, fun a ha => by cases ha⟩
  · have HR2 := Lib.hid (show Mp.gramDecR b = none by rw [HR.out, if_neg hok])
    have hd : (!sp && t.length == 0) = false := by
      cases sp
      · simpa using hok
      · rfl
    rw [hd]
    clear hok hd HR
    go_wp2_with fail
    obtain ⟨g1, g2, g3⟩ := set6 l10 (.int .i64 0) (.int .i64 0) (.int .i64 0) (.int .i64 0) (.int .i64 0) (.slice none 0 0) _ rfl
    obtain ⟨i0, i1, i2, i3, i4, i5⟩ := cells6 g1
    refine bodyPost_ret (v := .tuple #[.agg #[.int .i64 0, .int .i64 0, .int .i64 0, .int .i64 0, .int .i64 0, .slice none 0 0], .int .i64 2]) (by simp [results, Try.f14, go_sem, i0, i1, i2, i3, i4, i5]) rfl ?_
    rw [HR2.out]
    exact ⟨B10.trans (upd_below g2 (by simp) (by have := B10.size; omega)), 2, by decide, rfl⟩

set_option maxRecDepth 100000 in
set_option maxHeartbeats 1000000 in
theorem refRead3 (A : Option Addr) (b : Mp.Bytes) (c : Nat) (w : World) (hs : Seg w 5 A (bv b)) (hcap : b.length ≤ c) (hb : b.length ≤ 35184372088832) (body : Mp.Bytes) (hn : Mp.unwrap b = some (3, body)) :
    Calls Try.prog 14 #[.slice A b.length c] w (RetG w (Mp.gramDecR b)) := by
  have HU := Lib.hid (refUnwrap A b c (w.alloc (.cells #[.int .i64 0, .int .i64 0, .int .i64 0, .int .i64 0, .int .i64 0, .slice none 0 0] 38)) (hs.alloc _) hb hcap)
  rw [hn] at HU
  have hbl := Mp.unwrap_len hn
  obtain ⟨cn, s1, e1⟩ : ∃ x y, Mp.rnum 4 (body, false) = (x, y) := ⟨_, _, rfl⟩
  have n1 := Mp.rnum_len 4 (body, false)
  rw [e1] at n1
  obtain ⟨cd, s2, e2⟩ : ∃ x y, Mp.rnum 1 s1 = (x, y) := ⟨_, _, rfl⟩
  have n2 := Mp.rnum_len 1 s1
  rw [e2] at n2
  simp only at n1 n2
  have HR := Lib.hid (show Mp.gramDecR b = if s2.2 = false ∧ s2.1.length = 0 then some ⟨cn, 3, 0, 0, cd, []⟩ else none by
    unfold Mp.gramDecR
    rw [hn]
    simp only [Mp.gramRead, e1, e2]
    rfl)
  have E1 := Lib.hid e1
  have E2 := Lib.hid e2
  clear hn e1 e2
  have l0 := Blk.newAt w 38 #[.int .i64 0, .int .i64 0, .int .i64 0, .int .i64 0, .int .i64 0, .slice none 0 0] _ rfl
  go_enter Try.func14, Try.ntmps14
  go_wp2_with fail
  (with_reducible refine HU.out.mono ?_)
  rintro e w1 ⟨b1, A1, c1, rfl, o1, f1⟩
  have l1 := l0.below b1 l0.lt
  have hcl := o1.le
  have b1' : Below w.heap.size w w1 := ((Below.refl _ w).alloc (Nat.le_refl _) _).trans (b1.mono (by simp))
  have hz := l1.lt
  have l2 := (l1.alloc (.cells #[.slice A1 body.length c1, .bool false] 76)).alloc (.cells #[.int .i64 0, .int .i64 3, .int .i64 0, .int .i64 0, .int .i64 0, .slice none 0 0] 38)
  have q2 : IsQ ((w1.alloc (.cells #[.slice A1 body.length c1, .bool false] 76)).alloc (.cells #[.int .i64 0, .int .i64 3, .int .i64 0, .int .i64 0, .int .i64 0, .slice none 0 0] 38)) w1.heap.size (body, false) :=
    ⟨A1, c1, (Blk.new w1 _ _).alloc _, hcl, trivial, (o1.seg.alloc _).alloc _⟩
  have m2 := Blk.newAt (w1.alloc (.cells #[.slice A1 body.length c1, .bool false] 76)) 38 #[.int .i64 0, .int .i64 3, .int .i64 0, .int .i64 0, .int .i64 0, .slice none 0 0] (w1.heap.size + 1) (by simp)
  have B2 : Below w.heap.size w ((w1.alloc (.cells #[.slice A1 body.length c1, .bool false] 76)).alloc (.cells #[.int .i64 0, .int .i64 3, .int .i64 0, .int .i64 0, .int .i64 0, .slice none 0 0] 38)) := (b1'.alloc b1'.size _).alloc (by have := b1'.size; simp; omega) _
  have f2 : ∀ a, A1 = some a → 0 < body.length → w.heap.size ≤ a.block := fun a ha hb0 => by
    obtain ⟨g0, o0, cur, hA0, _⟩ := o1.row (by omega)
    have := f1 g0 (by rw [hA0]; simp [fp]; omega)
    rw [ha] at hA0; injection hA0 with hA0; subst hA0; simp at this; simp; omega
  go_wp2_with fail
  (with_reducible refine (refNum4 q2).mono ?_)
  rw [E1.out]
  rintro e w3' ⟨rfl, q3', u3', k3'⟩
  have x3 : w3'.cell? ⟨w1.heap.size + 1, 0, none⟩ = some (.int .i64 0) := (u3'.blk m2 (by simp)).cell 0
  have y3 : w3'.frozen? ⟨w1.heap.size + 1, 0, none⟩ = false := (u3'.blk m2 (by simp)).frozen 0
  obtain ⟨w3, hw3⟩ : ∃ W, W = w3'.setCell ⟨w1.heap.size + 1, 0, none⟩ (.int .i64 cn) := ⟨_, rfl⟩
  obtain ⟨q3, l3, m3, u3, k3⟩ := refReadStep (m2 := #[.int .i64 cn, .int .i64 3, .int .i64 0, .int .i64 0, .int .i64 0, .slice none 0 0]) (B := w.heap.size) q3' u3' k3' l2 m2 hz (Nat.lt_succ_self _) (Nat.le_refl _) hw3 (by simp)
  have B3 : Below w.heap.size w w3 := B2.trans (upd_below u3 (by intro k hk; simp at hk; omega) B2.size)
  have W3 := Lib.hid hw3
  clear hw3 u3 q3' u3' k3' q2 l2 m2 B2
  go_wp2_with fail
  rw [← W3.out]
  clear W3 x3 y3
  (with_reducible refine (refNum1 q3).mono ?_)
  rw [E2.out]
  rintro e w4' ⟨rfl, q4', u4', k4'⟩
  have x4 : w4'.cell? ⟨w1.heap.size + 1, 4, none⟩ = some (.int .i64 0) := (u4'.blk m3 (by simp)).cell 4
  have y4 : w4'.frozen? ⟨w1.heap.size + 1, 4, none⟩ = false := (u4'.blk m3 (by simp)).frozen 4
  obtain ⟨w4, hw4⟩ : ∃ W, W = w4'.setCell ⟨w1.heap.size + 1, 4, none⟩ (.int .i64 cd) := ⟨_, rfl⟩
  obtain ⟨q4, l4, m4, u4, k4⟩ := refReadStep (m2 := #[.int .i64 cn, .int .i64 3, .int .i64 0, .int .i64 0, .int .i64 cd, .slice none 0 0]) (B := w.heap.size) q4' u4' k4' l3 m3 hz (Nat.lt_succ_self _) (Nat.le_refl _) hw4 (by simp)
  have B4 : Below w.heap.size w w4 := B3.trans (upd_below u4 (by intro k hk; simp at hk; omega) B3.size)
  have W4 := Lib.hid hw4
  clear hw4 u4 q4' u4' k4' q3 l3 m3 B3
  go_wp2_with fail
  rw [← W4.out]
  clear W4 x4 y4
  have HD := refDone q4
  obtain ⟨t, sp⟩ := s2
  simp only at HD HR
  (with_reducible refine HD.mono ?_)
  rintro e w9 ⟨rfl, nd, hw9⟩
  have l10 := l4.drewN nd
  have m10 := m4.drewN nd
  have B10 : Below w.heap.size w (w4.drewN nd) := (Upd.of_below B4 []).drewN nd |>.to_below
  rw [← hw9] at l10 m10 B10
  obtain ⟨t0, t1, t2, t3, t4, t5⟩ := cells6 l10
  obtain ⟨j0, j1, j2, j3, j4, j5⟩ := cells6 m10
  have fz : ∀ i, w9.frozen? ⟨w.heap.size, i, none⟩ = false := fun i => l10.frozen i
  have hne : w.heap.size ≠ w1.heap.size + 1 := by omega
  have KK : Keep 5 w4 w9 := by rw [hw9]; exact (Keep.refl _ _).drewN nd
  clear hw9
  by_cases hok : sp = false ∧ t.length = 0
  · have HR2 := Lib.hid (show Mp.gramDecR b = some ⟨cn, 3, 0, 0, cd, []⟩ by rw [HR.out, if_pos hok])
    have hd : (!sp && t.length == 0) = true := by rw [hok.1]; simp [hok.2]
    rw [hd]
    clear hok hd HR
    go_wp2_with fail
    obtain ⟨g1, g2, g3⟩ := set6 l10 (.int .i64 cn) (.int .i64 3) (.int .i64 0) (.int .i64 0) (.int .i64 cd) (.slice none 0 0) _ rfl
    obtain ⟨i0, i1, i2, i3, i4, i5⟩ := cells6 g1
    refine bodyPost_ret (v := .tuple #[.agg #[.int .i64 cn, .int .i64 3, .int .i64 0, .int .i64 0, .int .i64 cd, .slice none 0 0], .int .i64 0]) (by simp [results, Try.f14, go_sem, i0, i1, i2, i3, i4, i5]) rfl ?_
    rw [HR2.out]
    refine ⟨B10.trans (upd_below g2 (by simp) (by have := B10.size; omega)), none, 0, rfl, by simp, Seg.nil _ _ _, fun a ha => by cases ha⟩
  · have HR2 := Lib.hid (show Mp.gramDecR b = none by rw [HR.out, if_neg hok])
    have hd : (!sp && t.length == 0) = false := by
      cases sp
      · simpa using hok
      · rfl
    rw [hd]
    clear hok hd HR
    go_wp2_with fail
    obtain ⟨g1, g2, g3⟩ := set6 l10 (.int .i64 0) (.int .i64 0) (.int .i64 0) (.int .i64 0) (.int .i64 0) (.slice none 0 0) _ rfl
    obtain ⟨i0, i1, i2, i3, i4, i5⟩ := cells6 g1
    refine bodyPost_ret (v := .tuple #[.agg #[.int .i64 0, .int .i64 0, .int .i64 0, .int .i64 0, .int .i64 0, .slice none 0 0], .int .i64 2]) (by simp [results, Try.f14, go_sem, i0, i1, i2, i3, i4, i5]) rfl ?_
    rw [HR2.out]
    exact ⟨B10.trans (upd_below g2 (by simp) (by have := B10.size; omega)), 2, by decide, rfl⟩

set_option maxRecDepth 100000 in
set_option maxHeartbeats 1000000 in
theorem refReadX (A : Option Addr) (b : Mp.Bytes) (c : Nat) (w : World) (hs : Seg w 5 A (bv b)) (hcap : b.length ≤ c) (hb : b.length ≤ 35184372088832) (body : Mp.Bytes) (kd : Int) (hn : Mp.unwrap b = some (kd, body)) (h1 : kd ≠ 1) (h2 : kd ≠ 2) (h3 : kd ≠ 3) :
    Calls Try.prog 14 #[.slice A b.length c] w (RetG w (Mp.gramDecR b)) := by
  have HU := Lib.hid (refUnwrap A b c (w.alloc (.cells #[.int .i64 0, .int .i64 0, .int .i64 0, .int .i64 0, .int .i64 0, .slice none 0 0] 38)) (hs.alloc _) hb hcap)
  rw [hn] at HU
  have HR := Lib.hid (show Mp.gramDecR b = none by unfold Mp.gramDecR; rw [hn]; simp only [Mp.gramRead]; rw [if_neg h1, if_neg h2, if_neg h3])
  rw [HR.out]
  have d1 : (kd == 1) = false := by simpa using h1
  have d2 : (kd == 2) = false := by simpa using h2
  have d3 : (kd == 3) = false := by simpa using h3
  clear hn h1 h2 h3
  have l0 := Blk.newAt w 38 #[.int .i64 0, .int .i64 0, .int .i64 0, .int .i64 0, .int .i64 0, .slice none 0 0] _ rfl
  go_enter Try.func14, Try.ntmps14
  go_wp2_with fail
  (with_reducible refine HU.out.mono ?_)
  rintro e w1 ⟨b1, A1, c1, rfl, o1, f1⟩
  have l1 := l0.below b1 l0.lt
  have b1' : Below w.heap.size w w1 := ((Below.refl _ w).alloc (Nat.le_refl _) _).trans (b1.mono (by simp))
  have hz := l1.lt
  obtain ⟨k0, k1, k2, k3, k4, k5⟩ := cells6 l1
  have fz : ∀ i, w1.frozen? ⟨w.heap.size, i, none⟩ = false := fun i => l1.frozen i
  obtain ⟨q1, q2, q3⟩ := set6 l1 (.int .i64 0) (.int .i64 0) (.int .i64 0) (.int .i64 0) (.int .i64 0) (.slice none 0 0) _ rfl
  obtain ⟨i0, i1, i2, i3, i4, i5⟩ := cells6 ((q1.alloc (.cells #[.slice A1 body.length c1, .bool false] 76)).alloc (.cells #[.int .i64 0, .int .i64 kd, .int .i64 0, .int .i64 0, .int .i64 0, .slice none 0 0] 38))
  have B3 := b1'.trans (upd_below (B := w.heap.size) q2 (by simp) b1'.size)
  have B4 := (B3.alloc B3.size (.cells #[.slice A1 body.length c1, .bool false] 76)).alloc (by have := B3.size; simp at this ⊢; omega) (.cells #[.int .i64 0, .int .i64 kd, .int .i64 0, .int .i64 0, .int .i64 0, .slice none 0 0] 38)
  clear B3 q2 q3 q1
  go_wp2_with fail
  refine bodyPost_ret (v := .tuple #[.agg #[.int .i64 0, .int .i64 0, .int .i64 0, .int .i64 0, .int .i64 0, .slice none 0 0], .int .i64 2]) (by simp [results, Try.f14, go_sem, i0, i1, i2, i3, i4, i5]) rfl ?_
  exact ⟨B4, 2, by decide, rfl⟩

/-- the document's ReadGram -/
theorem refReadGram (A : Option Addr) (b : Mp.Bytes) (c : Nat) (w : World) (hs : Seg w 5 A (bv b)) (hcap : b.length ≤ c) (hb : b.length ≤ 35184372088832) :
    Calls Try.prog 14 #[.slice A b.length c] w (RetG w (Mp.gramDecR b)) := by
  cases hn : Mp.unwrap b with
  | none => exact refReadNone A b c w hs hcap hb hn
  | some x =>
    obtain ⟨kd, body⟩ := x
    by_cases h1 : kd = 1
    · subst h1; exact refRead1 A b c w hs hcap hb body hn
    by_cases h2 : kd = 2
    · subst h2; exact refRead2 A b c w hs hcap hb body hn
    by_cases h3 : kd = 3
    · subst h3; exact refRead3 A b c w hs hcap hb body hn
    exact refReadX A b c w hs hcap hb body kd hn h1 h2 h3
end Go.Proofs.Ytemcpldipjbleaa
