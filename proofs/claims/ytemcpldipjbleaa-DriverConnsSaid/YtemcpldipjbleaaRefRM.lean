/- milepostref1.ReadMessage. -/
import Derived.Test.YtemcpldipjbleaaRefM
namespace Go.Proofs.Ytemcpldipjbleaa
open Go.RowKit
attribute [local go_sem ↓] Go.wp_at_zero Go.wp_at_succ

theorem set9 {w : World} {L : Nat} {T : TypeId} {a0 a1 a2 a3 a4 a5 a6 a7 a8 : Value} (h : Blk w L T #[a0, a1, a2, a3, a4, a5, a6, a7, a8]) (b0 b1 b2 b3 b4 b5 b6 b7 b8 : Value) (W : World)
    (hW : W = ((((((((w.setCell ⟨L, 0, none⟩ b0).setCell ⟨L, 1, none⟩ b1).setCell ⟨L, 2, none⟩ b2).setCell ⟨L, 3, none⟩ b3).setCell ⟨L, 4, none⟩ b4).setCell ⟨L, 5, none⟩ b5).setCell ⟨L, 6, none⟩ b6).setCell ⟨L, 7, none⟩ b7).setCell ⟨L, 8, none⟩ b8) :
    Blk W L T #[b0, b1, b2, b3, b4, b5, b6, b7, b8] ∧ Upd [L] w W ∧ ∀ T2, T ≠ T2 → Keep T2 w W := by
  subst hW
  have g0 := h.setTo 0 b0 #[b0, a1, a2, a3, a4, a5, a6, a7, a8] (by simp)
  have g1 := g0.setTo 1 b1 #[b0, b1, a2, a3, a4, a5, a6, a7, a8] (by simp)
  have g2 := g1.setTo 2 b2 #[b0, b1, b2, a3, a4, a5, a6, a7, a8] (by simp)
  have g3 := g2.setTo 3 b3 #[b0, b1, b2, b3, a4, a5, a6, a7, a8] (by simp)
  have g4 := g3.setTo 4 b4 #[b0, b1, b2, b3, b4, a5, a6, a7, a8] (by simp)
  have g5 := g4.setTo 5 b5 #[b0, b1, b2, b3, b4, b5, a6, a7, a8] (by simp)
  have g6 := g5.setTo 6 b6 #[b0, b1, b2, b3, b4, b5, b6, a7, a8] (by simp)
  have g7 := g6.setTo 7 b7 #[b0, b1, b2, b3, b4, b5, b6, b7, a8] (by simp)
  have g8 := g7.setTo 8 b8 #[b0, b1, b2, b3, b4, b5, b6, b7, b8] (by simp)
  refine ⟨g8, ?_, fun T2 hT => ?_⟩
  · exact ((((((((((Upd.refl [L] w).setCell (.inl (by simp)) _).setCell (.inl (by simp)) _).setCell (.inl (by simp)) _).setCell (.inl (by simp)) _).setCell (.inl (by simp)) _).setCell (.inl (by simp)) _).setCell (.inl (by simp)) _).setCell (.inl (by simp)) _).setCell (.inl (by simp)) _)
  · exact ((((((((((Keep.refl T2 w).setCell h hT 0 _).setCell g0 hT 1 _).setCell g1 hT 2 _).setCell g2 hT 3 _).setCell g3 hT 4 _).setCell g4 hT 5 _).setCell g5 hT 6 _).setCell g6 hT 7 _).setCell g7 hT 8 _)

/-- while a Route's edges are read: those that were, and the reader as it stands -/
def RouteR (w : World) (G : Nat) (N : Nat) (s3 : Mp.Bytes × Bool) (wt : Int) (k : Nat) (wr : World) : Prop :=
  ∃ es s Ae ce, es.length = k ∧ Mp.redgesR N s3 = (es ++ (Mp.redgesR (N - k) s).1, (Mp.redgesR (N - k) s).2) ∧ IsQ wr (w.heap.size + 1) s ∧ Blk wr w.heap.size 44 #[.int .i64 0, .int .i64 0, .int .i64 0, .slice none 0 0, .int .i64 0, .int .i64 0, .int .i64 0, .int .i64 0, .int .i64 0] ∧
    Blk wr G 44 #[.int .i64 5, .int .i64 0, .int .i64 0, .slice Ae k ce, .int .i64 wt, .int .i64 0, .int .i64 0, .int .i64 0, .int .i64 0] ∧ OwnS wr 3 1 Ae k ce (iv es) ∧ (∀ j, j ∈ fp Ae ce → w.heap.size ≤ j) ∧ Below w.heap.size w wr

/-- a message that was read, or none -/
def RetRM (w : World) (r : Option Mp.Msg) (e : Ending) (w' : World) : Prop :=
  Below w.heap.size w w' ∧ match r with
  | none => e = .returned (.tuple #[.agg #[.int .i64 0, .int .i64 0, .int .i64 0, .slice none 0 0, .int .i64 0, .int .i64 0, .int .i64 0, .int .i64 0, .int .i64 0], .bool false])
  | some m => ∃ A c, e = .returned (.tuple #[.agg (mv m A c), .bool true]) ∧ m.edges.length ≤ c ∧ Seg w' 3 A (iv m.edges) ∧ ∀ a, A = some a → 0 < m.edges.length → w.heap.size ≤ a.block

/-- a read, and a store of what was read into the block G -/
theorem refReadStepM {w W W2 : World} {Q R G : Nat} {s : Mp.Bytes × Bool} {l m m2 : Array Value} {j : Nat} {v : Value} (q : IsQ W Q s) (u : Upd [Q] w W) (k : Keep 5 w W) (hl : Blk w R 44 l) (hm : Blk w G 44 m) (hR : R < Q) (hG : Q < G)
    (hW2 : W2 = W.setCell ⟨G, j, none⟩ v) (hm2 : m.setIfInBounds j v = m2) : IsQ W2 Q s ∧ Blk W2 R 44 l ∧ Blk W2 G 44 m2 ∧ Upd [Q, G] w W2 ∧ Keep 5 w W2 := by
  subst hW2
  have a1 : G ∉ [Q] := by intro h; simp at h; omega
  have a2 : R ∉ [Q] := by intro h; simp at h; omega
  have a3 : Q ∉ [G] := by intro h; simp at h; omega
  have a4 : R ∉ [G] := by intro h; simp at h; omega
  have m1 := u.blk hm a1
  obtain ⟨n1, n2, n3⟩ := store1 (i := j) m1 v _ rfl hm2
  exact ⟨q.upd n2 (n3 _ (by decide)) a3, n2.blk (u.blk hl a2) a4, n1, (u.mono (G := [Q, G]) (by intro k hk _; simp at hk ⊢; exact .inl hk)).trans n2 (by intro k hk; simp at hk; subst hk; exact .inl (by simp)), k.trans (n3 _ (by decide))⟩

set_option maxRecDepth 100000 in
set_option maxHeartbeats 1000000 in
theorem refRM1 (A : Option Addr) (b : Mp.Bytes) (c : Nat) (w : World) (hs : Seg w 5 A (bv b)) (hcap : b.length ≤ c) (hk : (Mp.rnum 1 (b, false)).1 = 1) :
    Calls Try.prog 15 #[.slice A b.length c] w (RetRM w (Mp.msgDecR b)) := by
  obtain ⟨s1, e1⟩ : ∃ s, Mp.rnum 1 (b, false) = (1, s) := ⟨_, Prod.ext hk rfl⟩
  obtain ⟨ps, s2, e2⟩ : ∃ x y, Mp.rnum 2 s1 = (x, y) := ⟨_, _, rfl⟩
  obtain ⟨ds, s3, e3⟩ : ∃ x y, Mp.rnum 2 s2 = (x, y) := ⟨_, _, rfl⟩
  have HR := Lib.hid (show Mp.msgDecR b = if s3.2 = false ∧ s3.1.length = 0 ∧ Mp.msgEnc ⟨1, ps, ds, [], 0, .zero⟩ = some b then some ⟨1, ps, ds, [], 0, .zero⟩ else none by
    have hmo : Mp.msgOfR b = (⟨1, ps, ds, [], 0, .zero⟩, s3) := by
      unfold Mp.msgOfR
      simp only [e1, e2, e3]
      rfl
    unfold Mp.msgDecR
    rw [hmo])
  have E1 := Lib.hid e1
  have E2 := Lib.hid e2
  have E3 := Lib.hid e3
  clear e1 e2 e3 hk
  have l0 := (Blk.newAt w 44 #[.int .i64 0, .int .i64 0, .int .i64 0, .slice none 0 0, .int .i64 0, .int .i64 0, .int .i64 0, .int .i64 0, .int .i64 0] _ rfl).alloc (.cells #[.slice A b.length c, .bool false] 76)
  have q0 : IsQ ((w.alloc (.cells #[.int .i64 0, .int .i64 0, .int .i64 0, .slice none 0 0, .int .i64 0, .int .i64 0, .int .i64 0, .int .i64 0, .int .i64 0] 44)).alloc (.cells #[.slice A b.length c, .bool false] 76)) (w.heap.size + 1) (b, false) :=
    ⟨A, c, Blk.newAt _ _ _ _ (by simp), hcap, trivial, (hs.alloc _).alloc _⟩
  have B0 : Below w.heap.size w ((w.alloc (.cells #[.int .i64 0, .int .i64 0, .int .i64 0, .slice none 0 0, .int .i64 0, .int .i64 0, .int .i64 0, .int .i64 0, .int .i64 0] 44)).alloc (.cells #[.slice A b.length c, .bool false] 76)) := ((Below.refl _ w).alloc (Nat.le_refl _) _).alloc (by simp) _
  go_enter Try.func15, Try.ntmps15
  go_wp2_with fail
  (with_reducible refine (refNum1 q0).mono ?_)
  rw [E1.out]
  rintro e w1' ⟨rfl, q1', u1', k1'⟩
  have hzz := u1'.size
  simp at hzz
  have l1' := u1'.blk l0 (by simp)
  have B1' := B0.trans (upd_below (B := w.heap.size) u1' (by simp) B0.size)
  obtain ⟨w1, hw1⟩ : ∃ W, W = w1'.alloc (.cells #[.int .i64 1, .int .i64 0, .int .i64 0, .slice none 0 0, .int .i64 0, .int .i64 0, .int .i64 0, .int .i64 0, .int .i64 0] 44) := ⟨_, rfl⟩
  have q1 : IsQ w1 (w.heap.size + 1) s1 := by rw [hw1]; exact q1'.upd ((Upd.refl [] w1').alloc _) ((Keep.refl _ w1').alloc _) (by simp)
  have l1 : Blk w1 w.heap.size 44 #[.int .i64 0, .int .i64 0, .int .i64 0, .slice none 0 0, .int .i64 0, .int .i64 0, .int .i64 0, .int .i64 0, .int .i64 0] := by rw [hw1]; exact l1'.alloc _
  have m1 : Blk w1 w1'.heap.size 44 #[.int .i64 1, .int .i64 0, .int .i64 0, .slice none 0 0, .int .i64 0, .int .i64 0, .int .i64 0, .int .i64 0, .int .i64 0] := by rw [hw1]; exact Blk.newAt _ _ _ _ rfl
  have B1 : Below w.heap.size w w1 := by rw [hw1]; exact B1'.alloc B1'.size _
  have sb1 : Seg w1 5 A (bv b) := hs.below B1
  have hRQ : w.heap.size < w.heap.size + 1 := Nat.lt_succ_self _
  have hQG : w.heap.size + 1 < w1'.heap.size := by omega
  obtain ⟨G, hG⟩ : ∃ G, G = w1'.heap.size := ⟨_, rfl⟩
  have W1 := Lib.hid hw1
  obtain ⟨y0, y1, y2, y3, y4, y5, y6, y7, y8⟩ := cells9 m1
  clear hw1 q1' u1' k1' q0 l0 B0 l1' B1' hzz
  go_wp2_with fail
  rw [← W1.out]
  rw [← hG] at m1 hQG y0 y1 y2 y3 y4 y5 y6 y7 y8 ⊢
  clear W1 hG y0 y1 y2 y3 y4 y5 y6 y7 y8
  (with_reducible refine (refNum2 q1).mono ?_)
  rw [E2.out]
  rintro e w2' ⟨rfl, q2', u2', k2'⟩
  obtain ⟨z0, z1, z2, z3, z4, z5, z6, z7, z8⟩ := cells9 (u2'.blk m1 (by simp; omega))
  have y2 : w2'.frozen? ⟨G, 1, none⟩ = false := (u2'.blk m1 (by simp; omega)).frozen 1
  obtain ⟨w2, hw2⟩ : ∃ W, W = w2'.setCell ⟨G, 1, none⟩ (.int .i64 ps) := ⟨_, rfl⟩
  obtain ⟨q2, l2, m2, u2, k2⟩ := refReadStepM (m2 := #[.int .i64 1, .int .i64 ps, .int .i64 0, .slice none 0 0, .int .i64 0, .int .i64 0, .int .i64 0, .int .i64 0, .int .i64 0]) q2' u2' k2' l1 m1 hRQ hQG hw2 (by simp)
  have B2 : Below w.heap.size w w2 := B1.trans (upd_below u2 (by intro k hk; simp at hk; omega) B1.size)
  have sb2 := sb1.keep k2
  have W2 := Lib.hid hw2
  clear hw2 u2 q2' u2' k2' q1 l1 m1 B1 sb1 k2
  go_wp2_with fail
  rw [← W2.out]
  clear W2 y2 z0 z1 z2 z3 z4 z5 z6 z7 z8
  (with_reducible refine (refNum2 q2).mono ?_)
  rw [E3.out]
  rintro e w3' ⟨rfl, q3', u3', k3'⟩
  obtain ⟨z0, z1, z2, z3, z4, z5, z6, z7, z8⟩ := cells9 (u3'.blk m2 (by simp; omega))
  have y3 : w3'.frozen? ⟨G, 2, none⟩ = false := (u3'.blk m2 (by simp; omega)).frozen 2
  obtain ⟨w3, hw3⟩ : ∃ W, W = w3'.setCell ⟨G, 2, none⟩ (.int .i64 ds) := ⟨_, rfl⟩
  obtain ⟨q3, l3, m3, u3, k3⟩ := refReadStepM (m2 := #[.int .i64 1, .int .i64 ps, .int .i64 ds, .slice none 0 0, .int .i64 0, .int .i64 0, .int .i64 0, .int .i64 0, .int .i64 0]) q3' u3' k3' l2 m2 hRQ hQG hw3 (by simp)
  have B3 : Below w.heap.size w w3 := B2.trans (upd_below u3 (by intro k hk; simp at hk; omega) B2.size)
  have sb3 := sb2.keep k3
  have W3 := Lib.hid hw3
  clear hw3 u3 q3' u3' k3' q2 l2 m2 B2 sb2 k3
  go_wp2_with fail
  rw [← W3.out]
  clear W3 y3 z0 z1 z2 z3 z4 z5 z6 z7 z8
  obtain ⟨r, hr⟩ : ∃ r, r = Mp.msgEnc ⟨1, ps, ds, [], 0, .zero⟩ := ⟨_, rfl⟩
  have HM := refMessage ⟨1, ps, ds, [], 0, .zero⟩ none 0 w3 (Seg.nil _ _ _)
  rw [← hr] at HM
  have HR := Lib.hid (by have h := HR.out; rw [← hr] at h; exact h : Mp.msgDecR b = if s3.2 = false ∧ s3.1.length = 0 ∧ r = some b then some ⟨1, ps, ds, [], 0, .zero⟩ else none)
  clear hr
  simp only [mv, List.length_nil, Mp.Hint.zero] at HM
  have HM := Lib.hid HM
  (with_reducible refine HM.out.mono ?_)
  rintro e v1 ⟨bM, hM⟩
  have qv := q3.upd (Upd.of_below bM []) (Keep.of_below bM) (by simp)
  have lv := l3.below bM l3.lt
  have mvv := m3.below bM m3.lt
  have Bv := B3.trans (bM.mono B3.size)
  have sbv := sb3.below bM
  obtain ⟨t, sp⟩ := s3
  have HD := Lib.hid (refDone qv)
  simp only at HR HD
  have hne : w.heap.size ≠ G := by omega
  clear HM
  cases r with
  | none =>
    obtain rfl := hM
    have HR2 := Lib.hid (show Mp.msgDecR b = none by rw [HR.out, if_neg (by simp)])
    clear HR
    go_wp2_with fail
    (with_reducible refine HD.out.mono ?_)
    rintro e v2 ⟨rfl, nd, hv2⟩
    have l9 := lv.drewN nd
    have B9 : Below w.heap.size w (v1.drewN nd) := (Upd.of_below Bv []).drewN nd |>.to_below
    rw [← hv2] at l9 B9
    clear hv2 HD
    obtain ⟨t0, t1, t2, t3, t4, t5, t6, t7, t8⟩ := cells9 l9
    have fz : ∀ i, v2.frozen? ⟨w.heap.size, i, none⟩ = false := fun i => l9.frozen i
    generalize (!sp && t.length == 0) = dn
    cases dn
    all_goals
      go_wp2_with fail
      obtain ⟨g1, g2, g3⟩ := set9 l9 (.int .i64 0) (.int .i64 0) (.int .i64 0) (.slice none 0 0) (.int .i64 0) (.int .i64 0) (.int .i64 0) (.int .i64 0) (.int .i64 0) _ rfl
      obtain ⟨i0, i1, i2, i3, i4, i5, i6, i7, i8⟩ := cells9 g1
      refine bodyPost_ret (v := .tuple #[.agg #[.int .i64 0, .int .i64 0, .int .i64 0, .slice none 0 0, .int .i64 0, .int .i64 0, .int .i64 0, .int .i64 0, .int .i64 0], .bool false]) (by simp [results, Try.f15, go_sem, i0, i1, i2, i3, i4, i5, i6, i7, i8]) rfl ?_
      rw [HR2.out]
      exact ⟨B9.trans (upd_below g2 (by simp) B9.size), rfl⟩
  | some L =>
    obtain ⟨AL, cL, rfl, oL, fL⟩ := hM
    go_wp2_with fail
    (with_reducible refine HD.out.mono ?_)
    rintro e v2 ⟨rfl, nd, hv2⟩
    have l9 := lv.drewN nd
    have m9 := mvv.drewN nd
    have B9 : Below w.heap.size w (v1.drewN nd) := (Upd.of_below Bv []).drewN nd |>.to_below
    have sb9 : Seg (v1.drewN nd) 5 A (bv b) := sbv
    have oL9 : Seg (v1.drewN nd) 5 AL (bv L) := oL.seg
    have bM9 : Below w3.heap.size w3 (v1.drewN nd) := (Upd.of_below bM []).drewN nd |>.to_below
    rw [← hv2] at l9 m9 B9 sb9 oL9 bM9
    clear hv2 HD
    obtain ⟨t0, t1, t2, t3, t4, t5, t6, t7, t8⟩ := cells9 l9
    obtain ⟨j0, j1, j2, j3, j4, j5, j6, j7, j8⟩ := cells9 m9
    have fz : ∀ i, v2.frozen? ⟨w.heap.size, i, none⟩ = false := fun i => l9.frozen i
    have hcs := run_str L AL cL v2 oL9
    have hcb := run_str b A c v2 sb9
    by_cases hdn : sp = false ∧ t.length = 0
    · have hd : (!sp && t.length == 0) = true := by rw [hdn.1]; simp [hdn.2]
      rw [hd]
      by_cases hLb : L = b
      · have HR2 := Lib.hid (show Mp.msgDecR b = some ⟨1, ps, ds, [], 0, .zero⟩ by rw [HR.out, if_pos ⟨hdn.1, hdn.2, by rw [hLb]⟩])
        have hq : (L == b) = true := by simpa using hLb
        clear hLb hdn hd HR
        go_wp2_with fail
        generalize hv : (!(L == b)) = v
        cases v
        rotate_left
        · rw [hq] at hv; cases hv
        clear hv hq
        go_wp2_with fail
        obtain ⟨g1, g2, g3⟩ := set9 l9 (.int .i64 1) (.int .i64 ps) (.int .i64 ds) (.slice none 0 0) (.int .i64 0) (.int .i64 0) (.int .i64 0) (.int .i64 0) (.int .i64 0) _ rfl
        obtain ⟨i0, i1, i2, i3, i4, i5, i6, i7, i8⟩ := cells9 g1
        refine bodyPost_ret (v := .tuple #[.agg #[.int .i64 1, .int .i64 ps, .int .i64 ds, .slice none 0 0, .int .i64 0, .int .i64 0, .int .i64 0, .int .i64 0, .int .i64 0], .bool true]) (by simp [results, Try.f15, go_sem, i0, i1, i2, i3, i4, i5, i6, i7, i8]) rfl ?_
        rw [HR2.out]
        refine ⟨B9.trans (upd_below g2 (by simp) B9.size), none, 0, rfl, by simp, Seg.nil _ _ _, fun a ha => by cases ha⟩
      · have HR2 := Lib.hid (show Mp.msgDecR b = none by rw [HR.out, if_neg (fun h => hLb (by simpa using h.2.2))])
        have hq : (L == b) = false := by simpa using hLb
        clear hLb hdn hd HR
        go_wp2_with fail
        generalize hv : (!(L == b)) = v
        cases v
        · rw [hq] at hv; cases hv
        clear hv hq
        go_wp2_with fail
        obtain ⟨g1, g2, g3⟩ := set9 l9 (.int .i64 0) (.int .i64 0) (.int .i64 0) (.slice none 0 0) (.int .i64 0) (.int .i64 0) (.int .i64 0) (.int .i64 0) (.int .i64 0) _ rfl
        obtain ⟨i0, i1, i2, i3, i4, i5, i6, i7, i8⟩ := cells9 g1
        refine bodyPost_ret (v := .tuple #[.agg #[.int .i64 0, .int .i64 0, .int .i64 0, .slice none 0 0, .int .i64 0, .int .i64 0, .int .i64 0, .int .i64 0, .int .i64 0], .bool false]) (by simp [results, Try.f15, go_sem, i0, i1, i2, i3, i4, i5, i6, i7, i8]) rfl ?_
        rw [HR2.out]
        exact ⟨B9.trans (upd_below g2 (by simp) B9.size), rfl⟩
    · have HR2 := Lib.hid (show Mp.msgDecR b = none by rw [HR.out, if_neg (fun h => hdn ⟨h.1, h.2.1⟩)])
      have hd : (!sp && t.length == 0) = false := by
        cases sp
        · simpa using hdn
        · rfl
      rw [hd]
      clear hdn hd HR hcs hcb
      go_wp2_with fail
      obtain ⟨g1, g2, g3⟩ := set9 l9 (.int .i64 0) (.int .i64 0) (.int .i64 0) (.slice none 0 0) (.int .i64 0) (.int .i64 0) (.int .i64 0) (.int .i64 0) (.int .i64 0) _ rfl
      obtain ⟨i0, i1, i2, i3, i4, i5, i6, i7, i8⟩ := cells9 g1
      refine bodyPost_ret (v := .tuple #[.agg #[.int .i64 0, .int .i64 0, .int .i64 0, .slice none 0 0, .int .i64 0, .int .i64 0, .int .i64 0, .int .i64 0, .int .i64 0], .bool false]) (by simp [results, Try.f15, go_sem, i0, i1, i2, i3, i4, i5, i6, i7, i8]) rfl ?_
      rw [HR2.out]
      exact ⟨B9.trans (upd_below g2 (by simp) B9.size), rfl⟩

set_option maxRecDepth 100000 in
set_option maxHeartbeats 1000000 in
theorem refRM2 (A : Option Addr) (b : Mp.Bytes) (c : Nat) (w : World) (hs : Seg w 5 A (bv b)) (hcap : b.length ≤ c) (hk : (Mp.rnum 1 (b, false)).1 = 2) :
    Calls Try.prog 15 #[.slice A b.length c] w (RetRM w (Mp.msgDecR b)) := by
  obtain ⟨s1, e1⟩ : ∃ s, Mp.rnum 1 (b, false) = (2, s) := ⟨_, Prod.ext hk rfl⟩
  obtain ⟨ps, s2, e2⟩ : ∃ x y, Mp.rnum 2 s1 = (x, y) := ⟨_, _, rfl⟩
  have HR := Lib.hid (show Mp.msgDecR b = if s2.2 = false ∧ s2.1.length = 0 ∧ Mp.msgEnc ⟨2, ps, 0, [], 0, .zero⟩ = some b then some ⟨2, ps, 0, [], 0, .zero⟩ else none by
    have hmo : Mp.msgOfR b = (⟨2, ps, 0, [], 0, .zero⟩, s2) := by
      unfold Mp.msgOfR
      simp only [e1, e2]
      rfl
    unfold Mp.msgDecR
    rw [hmo])
  have E1 := Lib.hid e1
  have E2 := Lib.hid e2
  clear e1 e2 hk
  have l0 := (Blk.newAt w 44 #[.int .i64 0, .int .i64 0, .int .i64 0, .slice none 0 0, .int .i64 0, .int .i64 0, .int .i64 0, .int .i64 0, .int .i64 0] _ rfl).alloc (.cells #[.slice A b.length c, .bool false] 76)
  have q0 : IsQ ((w.alloc (.cells #[.int .i64 0, .int .i64 0, .int .i64 0, .slice none 0 0, .int .i64 0, .int .i64 0, .int .i64 0, .int .i64 0, .int .i64 0] 44)).alloc (.cells #[.slice A b.length c, .bool false] 76)) (w.heap.size + 1) (b, false) :=
    ⟨A, c, Blk.newAt _ _ _ _ (by simp), hcap, trivial, (hs.alloc _).alloc _⟩
  have B0 : Below w.heap.size w ((w.alloc (.cells #[.int .i64 0, .int .i64 0, .int .i64 0, .slice none 0 0, .int .i64 0, .int .i64 0, .int .i64 0, .int .i64 0, .int .i64 0] 44)).alloc (.cells #[.slice A b.length c, .bool false] 76)) := ((Below.refl _ w).alloc (Nat.le_refl _) _).alloc (by simp) _
  go_enter Try.func15, Try.ntmps15
  go_wp2_with fail
  (with_reducible refine (refNum1 q0).mono ?_)
  rw [E1.out]
  rintro e w1' ⟨rfl, q1', u1', k1'⟩
  have hzz := u1'.size
  simp at hzz
  have l1' := u1'.blk l0 (by simp)
  have B1' := B0.trans (upd_below (B := w.heap.size) u1' (by simp) B0.size)
  obtain ⟨w1, hw1⟩ : ∃ W, W = w1'.alloc (.cells #[.int .i64 2, .int .i64 0, .int .i64 0, .slice none 0 0, .int .i64 0, .int .i64 0, .int .i64 0, .int .i64 0, .int .i64 0] 44) := ⟨_, rfl⟩
  have q1 : IsQ w1 (w.heap.size + 1) s1 := by rw [hw1]; exact q1'.upd ((Upd.refl [] w1').alloc _) ((Keep.refl _ w1').alloc _) (by simp)
  have l1 : Blk w1 w.heap.size 44 #[.int .i64 0, .int .i64 0, .int .i64 0, .slice none 0 0, .int .i64 0, .int .i64 0, .int .i64 0, .int .i64 0, .int .i64 0] := by rw [hw1]; exact l1'.alloc _
  have m1 : Blk w1 w1'.heap.size 44 #[.int .i64 2, .int .i64 0, .int .i64 0, .slice none 0 0, .int .i64 0, .int .i64 0, .int .i64 0, .int .i64 0, .int .i64 0] := by rw [hw1]; exact Blk.newAt _ _ _ _ rfl
  have B1 : Below w.heap.size w w1 := by rw [hw1]; exact B1'.alloc B1'.size _
  have sb1 : Seg w1 5 A (bv b) := hs.below B1
  have hRQ : w.heap.size < w.heap.size + 1 := Nat.lt_succ_self _
  have hQG : w.heap.size + 1 < w1'.heap.size := by omega
  obtain ⟨G, hG⟩ : ∃ G, G = w1'.heap.size := ⟨_, rfl⟩
  have W1 := Lib.hid hw1
  obtain ⟨y0, y1, y2, y3, y4, y5, y6, y7, y8⟩ := cells9 m1
  clear hw1 q1' u1' k1' q0 l0 B0 l1' B1' hzz
  go_wp2_with fail
  rw [← W1.out]
  rw [← hG] at m1 hQG y0 y1 y2 y3 y4 y5 y6 y7 y8 ⊢
  clear W1 hG y0 y1 y2 y3 y4 y5 y6 y7 y8
  (with_reducible refine (refNum2 q1).mono ?_)
  rw [E2.out]
  rintro e w2' ⟨rfl, q2', u2', k2'⟩
  obtain ⟨z0, z1, z2, z3, z4, z5, z6, z7, z8⟩ := cells9 (u2'.blk m1 (by simp; omega))
  have y2 : w2'.frozen? ⟨G, 1, none⟩ = false := (u2'.blk m1 (by simp; omega)).frozen 1
  obtain ⟨w2, hw2⟩ : ∃ W, W = w2'.setCell ⟨G, 1, none⟩ (.int .i64 ps) := ⟨_, rfl⟩
  obtain ⟨q2, l2, m2, u2, k2⟩ := refReadStepM (m2 := #[.int .i64 2, .int .i64 ps, .int .i64 0, .slice none 0 0, .int .i64 0, .int .i64 0, .int .i64 0, .int .i64 0, .int .i64 0]) q2' u2' k2' l1 m1 hRQ hQG hw2 (by simp)
  have B2 : Below w.heap.size w w2 := B1.trans (upd_below u2 (by intro k hk; simp at hk; omega) B1.size)
  have sb2 := sb1.keep k2
  have W2 := Lib.hid hw2
  clear hw2 u2 q2' u2' k2' q1 l1 m1 B1 sb1 k2
  go_wp2_with fail
  rw [← W2.out]
  clear W2 y2 z0 z1 z2 z3 z4 z5 z6 z7 z8
  obtain ⟨r, hr⟩ : ∃ r, r = Mp.msgEnc ⟨2, ps, 0, [], 0, .zero⟩ := ⟨_, rfl⟩
  have HM := refMessage ⟨2, ps, 0, [], 0, .zero⟩ none 0 w2 (Seg.nil _ _ _)
  rw [← hr] at HM
  have HR := Lib.hid (by have h := HR.out; rw [← hr] at h; exact h : Mp.msgDecR b = if s2.2 = false ∧ s2.1.length = 0 ∧ r = some b then some ⟨2, ps, 0, [], 0, .zero⟩ else none)
  clear hr
  simp only [mv, List.length_nil, Mp.Hint.zero] at HM
  have HM := Lib.hid HM
  (with_reducible refine HM.out.mono ?_)
  rintro e v1 ⟨bM, hM⟩
  have qv := q2.upd (Upd.of_below bM []) (Keep.of_below bM) (by simp)
  have lv := l2.below bM l2.lt
  have mvv := m2.below bM m2.lt
  have Bv := B2.trans (bM.mono B2.size)
  have sbv := sb2.below bM
  obtain ⟨t, sp⟩ := s2
  have HD := Lib.hid (refDone qv)
  simp only at HR HD
  have hne : w.heap.size ≠ G := by omega
  clear HM
  cases r with
  | none =>
    obtain rfl := hM
    have HR2 := Lib.hid (show Mp.msgDecR b = none by rw [HR.out, if_neg (by simp)])
    clear HR
    go_wp2_with fail
    (with_reducible refine HD.out.mono ?_)
    rintro e v2 ⟨rfl, nd, hv2⟩
    have l9 := lv.drewN nd
    have B9 : Below w.heap.size w (v1.drewN nd) := (Upd.of_below Bv []).drewN nd |>.to_below
    rw [← hv2] at l9 B9
    clear hv2 HD
    obtain ⟨t0, t1, t2, t3, t4, t5, t6, t7, t8⟩ := cells9 l9
    have fz : ∀ i, v2.frozen? ⟨w.heap.size, i, none⟩ = false := fun i => l9.frozen i
    generalize (!sp && t.length == 0) = dn
    cases dn
    all_goals
      go_wp2_with fail
      obtain ⟨g1, g2, g3⟩ := set9 l9 (.int .i64 0) (.int .i64 0) (.int .i64 0) (.slice none 0 0) (.int .i64 0) (.int .i64 0) (.int .i64 0) (.int .i64 0) (.int .i64 0) _ rfl
      obtain ⟨i0, i1, i2, i3, i4, i5, i6, i7, i8⟩ := cells9 g1
      refine bodyPost_ret (v := .tuple #[.agg #[.int .i64 0, .int .i64 0, .int .i64 0, .slice none 0 0, .int .i64 0, .int .i64 0, .int .i64 0, .int .i64 0, .int .i64 0], .bool false]) (by simp [results, Try.f15, go_sem, i0, i1, i2, i3, i4, i5, i6, i7, i8]) rfl ?_
      rw [HR2.out]
      exact ⟨B9.trans (upd_below g2 (by simp) B9.size), rfl⟩
  | some L =>
    obtain ⟨AL, cL, rfl, oL, fL⟩ := hM
    go_wp2_with fail
    (with_reducible refine HD.out.mono ?_)
    rintro e v2 ⟨rfl, nd, hv2⟩
    have l9 := lv.drewN nd
    have m9 := mvv.drewN nd
    have B9 : Below w.heap.size w (v1.drewN nd) := (Upd.of_below Bv []).drewN nd |>.to_below
    have sb9 : Seg (v1.drewN nd) 5 A (bv b) := sbv
    have oL9 : Seg (v1.drewN nd) 5 AL (bv L) := oL.seg
    have bM9 : Below w2.heap.size w2 (v1.drewN nd) := (Upd.of_below bM []).drewN nd |>.to_below
    rw [← hv2] at l9 m9 B9 sb9 oL9 bM9
    clear hv2 HD
    obtain ⟨t0, t1, t2, t3, t4, t5, t6, t7, t8⟩ := cells9 l9
    obtain ⟨j0, j1, j2, j3, j4, j5, j6, j7, j8⟩ := cells9 m9
    have fz : ∀ i, v2.frozen? ⟨w.heap.size, i, none⟩ = false := fun i => l9.frozen i
    have hcs := run_str L AL cL v2 oL9
    have hcb := run_str b A c v2 sb9
    by_cases hdn : sp = false ∧ t.length = 0
    · have hd : (!sp && t.length == 0) = true := by rw [hdn.1]; simp [hdn.2]
      rw [hd]
      by_cases hLb : L = b
      · have HR2 := Lib.hid (show Mp.msgDecR b = some ⟨2, ps, 0, [], 0, .zero⟩ by rw [HR.out, if_pos ⟨hdn.1, hdn.2, by rw [hLb]⟩])
        have hq : (L == b) = true := by simpa using hLb
        clear hLb hdn hd HR
        go_wp2_with fail
        generalize hv : (!(L == b)) = v
        cases v
        rotate_left
        · rw [hq] at hv; cases hv
        clear hv hq
        go_wp2_with fail
        obtain ⟨g1, g2, g3⟩ := set9 l9 (.int .i64 2) (.int .i64 ps) (.int .i64 0) (.slice none 0 0) (.int .i64 0) (.int .i64 0) (.int .i64 0) (.int .i64 0) (.int .i64 0) _ rfl
        obtain ⟨i0, i1, i2, i3, i4, i5, i6, i7, i8⟩ := cells9 g1
        refine bodyPost_ret (v := .tuple #[.agg #[.int .i64 2, .int .i64 ps, .int .i64 0, .slice none 0 0, .int .i64 0, .int .i64 0, .int .i64 0, .int .i64 0, .int .i64 0], .bool true]) (by simp [results, Try.f15, go_sem, i0, i1, i2, i3, i4, i5, i6, i7, i8]) rfl ?_
        rw [HR2.out]
        refine ⟨B9.trans (upd_below g2 (by simp) B9.size), none, 0, rfl, by simp, Seg.nil _ _ _, fun a ha => by cases ha⟩
      · have HR2 := Lib.hid (show Mp.msgDecR b = none by rw [HR.out, if_neg (fun h => hLb (by simpa using h.2.2))])
        have hq : (L == b) = false := by simpa using hLb
        clear hLb hdn hd HR
        go_wp2_with fail
        generalize hv : (!(L == b)) = v
        cases v
        · rw [hq] at hv; cases hv
        clear hv hq
        go_wp2_with fail
        obtain ⟨g1, g2, g3⟩ := set9 l9 (.int .i64 0) (.int .i64 0) (.int .i64 0) (.slice none 0 0) (.int .i64 0) (.int .i64 0) (.int .i64 0) (.int .i64 0) (.int .i64 0) _ rfl
        obtain ⟨i0, i1, i2, i3, i4, i5, i6, i7, i8⟩ := cells9 g1
        refine bodyPost_ret (v := .tuple #[.agg #[.int .i64 0, .int .i64 0, .int .i64 0, .slice none 0 0, .int .i64 0, .int .i64 0, .int .i64 0, .int .i64 0, .int .i64 0], .bool false]) (by simp [results, Try.f15, go_sem, i0, i1, i2, i3, i4, i5, i6, i7, i8]) rfl ?_
        rw [HR2.out]
        exact ⟨B9.trans (upd_below g2 (by simp) B9.size), rfl⟩
    · have HR2 := Lib.hid (show Mp.msgDecR b = none by rw [HR.out, if_neg (fun h => hdn ⟨h.1, h.2.1⟩)])
      have hd : (!sp && t.length == 0) = false := by
        cases sp
        · simpa using hdn
        · rfl
      rw [hd]
      clear hdn hd HR hcs hcb
      go_wp2_with fail
      obtain ⟨g1, g2, g3⟩ := set9 l9 (.int .i64 0) (.int .i64 0) (.int .i64 0) (.slice none 0 0) (.int .i64 0) (.int .i64 0) (.int .i64 0) (.int .i64 0) (.int .i64 0) _ rfl
      obtain ⟨i0, i1, i2, i3, i4, i5, i6, i7, i8⟩ := cells9 g1
      refine bodyPost_ret (v := .tuple #[.agg #[.int .i64 0, .int .i64 0, .int .i64 0, .slice none 0 0, .int .i64 0, .int .i64 0, .int .i64 0, .int .i64 0, .int .i64 0], .bool false]) (by simp [results, Try.f15, go_sem, i0, i1, i2, i3, i4, i5, i6, i7, i8]) rfl ?_
      rw [HR2.out]
      exact ⟨B9.trans (upd_below g2 (by simp) B9.size), rfl⟩

set_option maxRecDepth 100000 in
set_option maxHeartbeats 1000000 in
theorem refRM9 (A : Option Addr) (b : Mp.Bytes) (c : Nat) (w : World) (hs : Seg w 5 A (bv b)) (hcap : b.length ≤ c) (hk : (Mp.rnum 1 (b, false)).1 = 9) :
    Calls Try.prog 15 #[.slice A b.length c] w (RetRM w (Mp.msgDecR b)) := by
  obtain ⟨s1, e1⟩ : ∃ s, Mp.rnum 1 (b, false) = (9, s) := ⟨_, Prod.ext hk rfl⟩
  obtain ⟨ps, s2, e2⟩ : ∃ x y, Mp.rnum 2 s1 = (x, y) := ⟨_, _, rfl⟩
  have HR := Lib.hid (show Mp.msgDecR b = if s2.2 = false ∧ s2.1.length = 0 ∧ Mp.msgEnc ⟨9, ps, 0, [], 0, .zero⟩ = some b then some ⟨9, ps, 0, [], 0, .zero⟩ else none by
    have hmo : Mp.msgOfR b = (⟨9, ps, 0, [], 0, .zero⟩, s2) := by
      unfold Mp.msgOfR
      simp only [e1, e2]
      rfl
    unfold Mp.msgDecR
    rw [hmo])
  have E1 := Lib.hid e1
  have E2 := Lib.hid e2
  clear e1 e2 hk
  have l0 := (Blk.newAt w 44 #[.int .i64 0, .int .i64 0, .int .i64 0, .slice none 0 0, .int .i64 0, .int .i64 0, .int .i64 0, .int .i64 0, .int .i64 0] _ rfl).alloc (.cells #[.slice A b.length c, .bool false] 76)
  have q0 : IsQ ((w.alloc (.cells #[.int .i64 0, .int .i64 0, .int .i64 0, .slice none 0 0, .int .i64 0, .int .i64 0, .int .i64 0, .int .i64 0, .int .i64 0] 44)).alloc (.cells #[.slice A b.length c, .bool false] 76)) (w.heap.size + 1) (b, false) :=
    ⟨A, c, Blk.newAt _ _ _ _ (by simp), hcap, trivial, (hs.alloc _).alloc _⟩
  have B0 : Below w.heap.size w ((w.alloc (.cells #[.int .i64 0, .int .i64 0, .int .i64 0, .slice none 0 0, .int .i64 0, .int .i64 0, .int .i64 0, .int .i64 0, .int .i64 0] 44)).alloc (.cells #[.slice A b.length c, .bool false] 76)) := ((Below.refl _ w).alloc (Nat.le_refl _) _).alloc (by simp) _
  go_enter Try.func15, Try.ntmps15
  go_wp2_with fail
  (with_reducible refine (refNum1 q0).mono ?_)
  rw [E1.out]
  rintro e w1' ⟨rfl, q1', u1', k1'⟩
  have hzz := u1'.size
  simp at hzz
  have l1' := u1'.blk l0 (by simp)
  have B1' := B0.trans (upd_below (B := w.heap.size) u1' (by simp) B0.size)
  obtain ⟨w1, hw1⟩ : ∃ W, W = w1'.alloc (.cells #[.int .i64 9, .int .i64 0, .int .i64 0, .slice none 0 0, .int .i64 0, .int .i64 0, .int .i64 0, .int .i64 0, .int .i64 0] 44) := ⟨_, rfl⟩
  have q1 : IsQ w1 (w.heap.size + 1) s1 := by rw [hw1]; exact q1'.upd ((Upd.refl [] w1').alloc _) ((Keep.refl _ w1').alloc _) (by simp)
  have l1 : Blk w1 w.heap.size 44 #[.int .i64 0, .int .i64 0, .int .i64 0, .slice none 0 0, .int .i64 0, .int .i64 0, .int .i64 0, .int .i64 0, .int .i64 0] := by rw [hw1]; exact l1'.alloc _
  have m1 : Blk w1 w1'.heap.size 44 #[.int .i64 9, .int .i64 0, .int .i64 0, .slice none 0 0, .int .i64 0, .int .i64 0, .int .i64 0, .int .i64 0, .int .i64 0] := by rw [hw1]; exact Blk.newAt _ _ _ _ rfl
  have B1 : Below w.heap.size w w1 := by rw [hw1]; exact B1'.alloc B1'.size _
  have sb1 : Seg w1 5 A (bv b) := hs.below B1
  have hRQ : w.heap.size < w.heap.size + 1 := Nat.lt_succ_self _
  have hQG : w.heap.size + 1 < w1'.heap.size := by omega
  obtain ⟨G, hG⟩ : ∃ G, G = w1'.heap.size := ⟨_, rfl⟩
  have W1 := Lib.hid hw1
  obtain ⟨y0, y1, y2, y3, y4, y5, y6, y7, y8⟩ := cells9 m1
  clear hw1 q1' u1' k1' q0 l0 B0 l1' B1' hzz
  go_wp2_with fail
  rw [← W1.out]
  rw [← hG] at m1 hQG y0 y1 y2 y3 y4 y5 y6 y7 y8 ⊢
  clear W1 hG y0 y1 y2 y3 y4 y5 y6 y7 y8
  (with_reducible refine (refNum2 q1).mono ?_)
  rw [E2.out]
  rintro e w2' ⟨rfl, q2', u2', k2'⟩
  obtain ⟨z0, z1, z2, z3, z4, z5, z6, z7, z8⟩ := cells9 (u2'.blk m1 (by simp; omega))
  have y2 : w2'.frozen? ⟨G, 1, none⟩ = false := (u2'.blk m1 (by simp; omega)).frozen 1
  obtain ⟨w2, hw2⟩ : ∃ W, W = w2'.setCell ⟨G, 1, none⟩ (.int .i64 ps) := ⟨_, rfl⟩
  obtain ⟨q2, l2, m2, u2, k2⟩ := refReadStepM (m2 := #[.int .i64 9, .int .i64 ps, .int .i64 0, .slice none 0 0, .int .i64 0, .int .i64 0, .int .i64 0, .int .i64 0, .int .i64 0]) q2' u2' k2' l1 m1 hRQ hQG hw2 (by simp)
  have B2 : Below w.heap.size w w2 := B1.trans (upd_below u2 (by intro k hk; simp at hk; omega) B1.size)
  have sb2 := sb1.keep k2
  have W2 := Lib.hid hw2
  clear hw2 u2 q2' u2' k2' q1 l1 m1 B1 sb1 k2
  go_wp2_with fail
  rw [← W2.out]
  clear W2 y2 z0 z1 z2 z3 z4 z5 z6 z7 z8
  obtain ⟨r, hr⟩ : ∃ r, r = Mp.msgEnc ⟨9, ps, 0, [], 0, .zero⟩ := ⟨_, rfl⟩
  have HM := refMessage ⟨9, ps, 0, [], 0, .zero⟩ none 0 w2 (Seg.nil _ _ _)
  rw [← hr] at HM
  have HR := Lib.hid (by have h := HR.out; rw [← hr] at h; exact h : Mp.msgDecR b = if s2.2 = false ∧ s2.1.length = 0 ∧ r = some b then some ⟨9, ps, 0, [], 0, .zero⟩ else none)
  clear hr
  simp only [mv, List.length_nil, Mp.Hint.zero] at HM
  have HM := Lib.hid HM
  (with_reducible refine HM.out.mono ?_)
  rintro e v1 ⟨bM, hM⟩
  have qv := q2.upd (Upd.of_below bM []) (Keep.of_below bM) (by simp)
  have lv := l2.below bM l2.lt
  have mvv := m2.below bM m2.lt
  have Bv := B2.trans (bM.mono B2.size)
  have sbv := sb2.below bM
  obtain ⟨t, sp⟩ := s2
  have HD := Lib.hid (refDone qv)
  simp only at HR HD
  have hne : w.heap.size ≠ G := by omega
  clear HM
  cases r with
  | none =>
    obtain rfl := hM
    have HR2 := Lib.hid (show Mp.msgDecR b = none by rw [HR.out, if_neg (by simp)])
    clear HR
    go_wp2_with fail
    (with_reducible refine HD.out.mono ?_)
    rintro e v2 ⟨rfl, nd, hv2⟩
    have l9 := lv.drewN nd
    have B9 : Below w.heap.size w (v1.drewN nd) := (Upd.of_below Bv []).drewN nd |>.to_below
    rw [← hv2] at l9 B9
    clear hv2 HD
    obtain ⟨t0, t1, t2, t3, t4, t5, t6, t7, t8⟩ := cells9 l9
    have fz : ∀ i, v2.frozen? ⟨w.heap.size, i, none⟩ = false := fun i => l9.frozen i
    generalize (!sp && t.length == 0) = dn
    cases dn
    all_goals
      go_wp2_with fail
      obtain ⟨g1, g2, g3⟩ := set9 l9 (.int .i64 0) (.int .i64 0) (.int .i64 0) (.slice none 0 0) (.int .i64 0) (.int .i64 0) (.int .i64 0) (.int .i64 0) (.int .i64 0) _ rfl
      obtain ⟨i0, i1, i2, i3, i4, i5, i6, i7, i8⟩ := cells9 g1
      refine bodyPost_ret (v := .tuple #[.agg #[.int .i64 0, .int .i64 0, .int .i64 0, .slice none 0 0, .int .i64 0, .int .i64 0, .int .i64 0, .int .i64 0, .int .i64 0], .bool false]) (by simp [results, Try.f15, go_sem, i0, i1, i2, i3, i4, i5, i6, i7, i8]) rfl ?_
      rw [HR2.out]
      exact ⟨B9.trans (upd_below g2 (by simp) B9.size), rfl⟩
  | some L =>
    obtain ⟨AL, cL, rfl, oL, fL⟩ := hM
    go_wp2_with fail
    (with_reducible refine HD.out.mono ?_)
    rintro e v2 ⟨rfl, nd, hv2⟩
    have l9 := lv.drewN nd
    have m9 := mvv.drewN nd
    have B9 : Below w.heap.size w (v1.drewN nd) := (Upd.of_below Bv []).drewN nd |>.to_below
    have sb9 : Seg (v1.drewN nd) 5 A (bv b) := sbv
    have oL9 : Seg (v1.drewN nd) 5 AL (bv L) := oL.seg
    have bM9 : Below w2.heap.size w2 (v1.drewN nd) := (Upd.of_below bM []).drewN nd |>.to_below
    rw [← hv2] at l9 m9 B9 sb9 oL9 bM9
    clear hv2 HD
    obtain ⟨t0, t1, t2, t3, t4, t5, t6, t7, t8⟩ := cells9 l9
    obtain ⟨j0, j1, j2, j3, j4, j5, j6, j7, j8⟩ := cells9 m9
    have fz : ∀ i, v2.frozen? ⟨w.heap.size, i, none⟩ = false := fun i => l9.frozen i
    have hcs := run_str L AL cL v2 oL9
    have hcb := run_str b A c v2 sb9
    by_cases hdn : sp = false ∧ t.length = 0
    · have hd : (!sp && t.length == 0) = true := by rw [hdn.1]; simp [hdn.2]
      rw [hd]
      by_cases hLb : L = b
      · have HR2 := Lib.hid (show Mp.msgDecR b = some ⟨9, ps, 0, [], 0, .zero⟩ by rw [HR.out, if_pos ⟨hdn.1, hdn.2, by rw [hLb]⟩])
        have hq : (L == b) = true := by simpa using hLb
        clear hLb hdn hd HR
        go_wp2_with fail
        generalize hv : (!(L == b)) = v
        cases v
        rotate_left
        · rw [hq] at hv; cases hv
        clear hv hq
        go_wp2_with fail
        obtain ⟨g1, g2, g3⟩ := set9 l9 (.int .i64 9) (.int .i64 ps) (.int .i64 0) (.slice none 0 0) (.int .i64 0) (.int .i64 0) (.int .i64 0) (.int .i64 0) (.int .i64 0) _ rfl
        obtain ⟨i0, i1, i2, i3, i4, i5, i6, i7, i8⟩ := cells9 g1
        refine bodyPost_ret (v := .tuple #[.agg #[.int .i64 9, .int .i64 ps, .int .i64 0, .slice none 0 0, .int .i64 0, .int .i64 0, .int .i64 0, .int .i64 0, .int .i64 0], .bool true]) (by simp [results, Try.f15, go_sem, i0, i1, i2, i3, i4, i5, i6, i7, i8]) rfl ?_
        rw [HR2.out]
        refine ⟨B9.trans (upd_below g2 (by simp) B9.size), none, 0, rfl, by simp, Seg.nil _ _ _, fun a ha => by cases ha⟩
      · have HR2 := Lib.hid (show Mp.msgDecR b = none by rw [HR.out, if_neg (fun h => hLb (by simpa using h.2.2))])
        have hq : (L == b) = false := by simpa using hLb
        clear hLb hdn hd HR
        go_wp2_with fail
        generalize hv : (!(L == b)) = v
        cases v
        · rw [hq] at hv; cases hv
        clear hv hq
        go_wp2_with fail
        obtain ⟨g1, g2, g3⟩ := set9 l9 (.int .i64 0) (.int .i64 0) (.int .i64 0) (.slice none 0 0) (.int .i64 0) (.int .i64 0) (.int .i64 0) (.int .i64 0) (.int .i64 0) _ rfl
        obtain ⟨i0, i1, i2, i3, i4, i5, i6, i7, i8⟩ := cells9 g1
        refine bodyPost_ret (v := .tuple #[.agg #[.int .i64 0, .int .i64 0, .int .i64 0, .slice none 0 0, .int .i64 0, .int .i64 0, .int .i64 0, .int .i64 0, .int .i64 0], .bool false]) (by simp [results, Try.f15, go_sem, i0, i1, i2, i3, i4, i5, i6, i7, i8]) rfl ?_
        rw [HR2.out]
        exact ⟨B9.trans (upd_below g2 (by simp) B9.size), rfl⟩
    · have HR2 := Lib.hid (show Mp.msgDecR b = none by rw [HR.out, if_neg (fun h => hdn ⟨h.1, h.2.1⟩)])
      have hd : (!sp && t.length == 0) = false := by
        cases sp
        · simpa using hdn
        · rfl
      rw [hd]
      clear hdn hd HR hcs hcb
      go_wp2_with fail
      obtain ⟨g1, g2, g3⟩ := set9 l9 (.int .i64 0) (.int .i64 0) (.int .i64 0) (.slice none 0 0) (.int .i64 0) (.int .i64 0) (.int .i64 0) (.int .i64 0) (.int .i64 0) _ rfl
      obtain ⟨i0, i1, i2, i3, i4, i5, i6, i7, i8⟩ := cells9 g1
      refine bodyPost_ret (v := .tuple #[.agg #[.int .i64 0, .int .i64 0, .int .i64 0, .slice none 0 0, .int .i64 0, .int .i64 0, .int .i64 0, .int .i64 0, .int .i64 0], .bool false]) (by simp [results, Try.f15, go_sem, i0, i1, i2, i3, i4, i5, i6, i7, i8]) rfl ?_
      rw [HR2.out]
      exact ⟨B9.trans (upd_below g2 (by simp) B9.size), rfl⟩

set_option maxRecDepth 100000 in
set_option maxHeartbeats 1000000 in
theorem refRM7 (A : Option Addr) (b : Mp.Bytes) (c : Nat) (w : World) (hs : Seg w 5 A (bv b)) (hcap : b.length ≤ c) (hk : (Mp.rnum 1 (b, false)).1 = 7) :
    Calls Try.prog 15 #[.slice A b.length c] w (RetRM w (Mp.msgDecR b)) := by
  obtain ⟨s1, e1⟩ : ∃ s, Mp.rnum 1 (b, false) = (7, s) := ⟨_, Prod.ext hk rfl⟩
  obtain ⟨cl, s2, e2⟩ : ∃ x y, Mp.rnum 1 s1 = (x, y) := ⟨_, _, rfl⟩
  obtain ⟨ed, s3, e3⟩ : ∃ x y, Mp.rnum 2 s2 = (x, y) := ⟨_, _, rfl⟩
  have r3 := Mp.rnum_lt 2 s2
  have r3' : 0 ≤ ed ∧ ed < 65536 := by rw [show Mp.rnum ((2 : Nat) : Int) s2 = (ed, s3) from e3] at r3; exact r3
  have hw3 : wrap64 (ed - 1) = ed - 1 := IntWalk.wrap64_in _ ⟨by omega, by omega⟩
  clear r3
  obtain ⟨fa, s4, e4⟩ : ∃ x y, Mp.rnum 5 s3 = (x, y) := ⟨_, _, rfl⟩
  obtain ⟨le, s5, e5⟩ : ∃ x y, Mp.rnum 5 s4 = (x, y) := ⟨_, _, rfl⟩
  have HR := Lib.hid (show Mp.msgDecR b = if s5.2 = false ∧ s5.1.length = 0 ∧ Mp.msgEnc ⟨7, 0, 0, [], 0, ⟨cl, ed - 1, fa, le⟩⟩ = some b then some ⟨7, 0, 0, [], 0, ⟨cl, ed - 1, fa, le⟩⟩ else none by
    have hmo : Mp.msgOfR b = (⟨7, 0, 0, [], 0, ⟨cl, ed - 1, fa, le⟩⟩, s5) := by
      unfold Mp.msgOfR
      simp only [e1, e2, e3, e4, e5]
      rfl
    unfold Mp.msgDecR
    rw [hmo])
  have E1 := Lib.hid e1
  have E2 := Lib.hid e2
  have E3 := Lib.hid e3
  have E4 := Lib.hid e4
  have E5 := Lib.hid e5
  clear e1 e2 e3 e4 e5 hk
  have l0 := (Blk.newAt w 44 #[.int .i64 0, .int .i64 0, .int .i64 0, .slice none 0 0, .int .i64 0, .int .i64 0, .int .i64 0, .int .i64 0, .int .i64 0] _ rfl).alloc (.cells #[.slice A b.length c, .bool false] 76)
  have q0 : IsQ ((w.alloc (.cells #[.int .i64 0, .int .i64 0, .int .i64 0, .slice none 0 0, .int .i64 0, .int .i64 0, .int .i64 0, .int .i64 0, .int .i64 0] 44)).alloc (.cells #[.slice A b.length c, .bool false] 76)) (w.heap.size + 1) (b, false) :=
    ⟨A, c, Blk.newAt _ _ _ _ (by simp), hcap, trivial, (hs.alloc _).alloc _⟩
  have B0 : Below w.heap.size w ((w.alloc (.cells #[.int .i64 0, .int .i64 0, .int .i64 0, .slice none 0 0, .int .i64 0, .int .i64 0, .int .i64 0, .int .i64 0, .int .i64 0] 44)).alloc (.cells #[.slice A b.length c, .bool false] 76)) := ((Below.refl _ w).alloc (Nat.le_refl _) _).alloc (by simp) _
  go_enter Try.func15, Try.ntmps15
  go_wp2_with fail
  (with_reducible refine (refNum1 q0).mono ?_)
  rw [E1.out]
  rintro e w1' ⟨rfl, q1', u1', k1'⟩
  have hzz := u1'.size
  simp at hzz
  have l1' := u1'.blk l0 (by simp)
  have B1' := B0.trans (upd_below (B := w.heap.size) u1' (by simp) B0.size)
  obtain ⟨w1, hw1⟩ : ∃ W, W = w1'.alloc (.cells #[.int .i64 7, .int .i64 0, .int .i64 0, .slice none 0 0, .int .i64 0, .int .i64 0, .int .i64 0, .int .i64 0, .int .i64 0] 44) := ⟨_, rfl⟩
  have q1 : IsQ w1 (w.heap.size + 1) s1 := by rw [hw1]; exact q1'.upd ((Upd.refl [] w1').alloc _) ((Keep.refl _ w1').alloc _) (by simp)
  have l1 : Blk w1 w.heap.size 44 #[.int .i64 0, .int .i64 0, .int .i64 0, .slice none 0 0, .int .i64 0, .int .i64 0, .int .i64 0, .int .i64 0, .int .i64 0] := by rw [hw1]; exact l1'.alloc _
  have m1 : Blk w1 w1'.heap.size 44 #[.int .i64 7, .int .i64 0, .int .i64 0, .slice none 0 0, .int .i64 0, .int .i64 0, .int .i64 0, .int .i64 0, .int .i64 0] := by rw [hw1]; exact Blk.newAt _ _ _ _ rfl
  have B1 : Below w.heap.size w w1 := by rw [hw1]; exact B1'.alloc B1'.size _
  have sb1 : Seg w1 5 A (bv b) := hs.below B1
  have hRQ : w.heap.size < w.heap.size + 1 := Nat.lt_succ_self _
  have hQG : w.heap.size + 1 < w1'.heap.size := by omega
  obtain ⟨G, hG⟩ : ∃ G, G = w1'.heap.size := ⟨_, rfl⟩
  have W1 := Lib.hid hw1
  obtain ⟨y0, y1, y2, y3, y4, y5, y6, y7, y8⟩ := cells9 m1
  clear hw1 q1' u1' k1' q0 l0 B0 l1' B1' hzz
  go_wp2_with fail
  rw [← W1.out]
  rw [← hG] at m1 hQG y0 y1 y2 y3 y4 y5 y6 y7 y8 ⊢
  clear W1 hG y0 y1 y2 y3 y4 y5 y6 y7 y8
  (with_reducible refine (refNum1 q1).mono ?_)
  rw [E2.out]
  rintro e w2' ⟨rfl, q2', u2', k2'⟩
  obtain ⟨z0, z1, z2, z3, z4, z5, z6, z7, z8⟩ := cells9 (u2'.blk m1 (by simp; omega))
  have y2 : w2'.frozen? ⟨G, 5, none⟩ = false := (u2'.blk m1 (by simp; omega)).frozen 5
  obtain ⟨w2, hw2⟩ : ∃ W, W = w2'.setCell ⟨G, 5, none⟩ (.int .i64 cl) := ⟨_, rfl⟩
  obtain ⟨q2, l2, m2, u2, k2⟩ := refReadStepM (m2 := #[.int .i64 7, .int .i64 0, .int .i64 0, .slice none 0 0, .int .i64 0, .int .i64 cl, .int .i64 0, .int .i64 0, .int .i64 0]) q2' u2' k2' l1 m1 hRQ hQG hw2 (by simp)
  have B2 : Below w.heap.size w w2 := B1.trans (upd_below u2 (by intro k hk; simp at hk; omega) B1.size)
  have sb2 := sb1.keep k2
  have W2 := Lib.hid hw2
  clear hw2 u2 q2' u2' k2' q1 l1 m1 B1 sb1 k2
  go_wp2_with fail
  rw [← W2.out]
  clear W2 y2 z0 z1 z2 z3 z4 z5 z6 z7 z8
  (with_reducible refine (refNum2 q2).mono ?_)
  rw [E3.out]
  rintro e w3' ⟨rfl, q3', u3', k3'⟩
  obtain ⟨z0, z1, z2, z3, z4, z5, z6, z7, z8⟩ := cells9 (u3'.blk m2 (by simp; omega))
  have y3 : w3'.frozen? ⟨G, 6, none⟩ = false := (u3'.blk m2 (by simp; omega)).frozen 6
  obtain ⟨w3, hw3⟩ : ∃ W, W = w3'.setCell ⟨G, 6, none⟩ (.int .i64 (ed - 1)) := ⟨_, rfl⟩
  obtain ⟨q3, l3, m3, u3, k3⟩ := refReadStepM (m2 := #[.int .i64 7, .int .i64 0, .int .i64 0, .slice none 0 0, .int .i64 0, .int .i64 cl, .int .i64 (ed - 1), .int .i64 0, .int .i64 0]) q3' u3' k3' l2 m2 hRQ hQG hw3 (by simp)
  have B3 : Below w.heap.size w w3 := B2.trans (upd_below u3 (by intro k hk; simp at hk; omega) B2.size)
  have sb3 := sb2.keep k3
  have W3 := Lib.hid hw3
  clear hw3 u3 q3' u3' k3' q2 l2 m2 B2 sb2 k3
  go_wp2_with fail
  rw [← W3.out]
  clear W3 y3 z0 z1 z2 z3 z4 z5 z6 z7 z8
  (with_reducible refine (refNum5 q3).mono ?_)
  rw [E4.out]
  rintro e w4' ⟨rfl, q4', u4', k4'⟩
  obtain ⟨z0, z1, z2, z3, z4, z5, z6, z7, z8⟩ := cells9 (u4'.blk m3 (by simp; omega))
  have y4 : w4'.frozen? ⟨G, 7, none⟩ = false := (u4'.blk m3 (by simp; omega)).frozen 7
  obtain ⟨w4, hw4⟩ : ∃ W, W = w4'.setCell ⟨G, 7, none⟩ (.int .i64 fa) := ⟨_, rfl⟩
  obtain ⟨q4, l4, m4, u4, k4⟩ := refReadStepM (m2 := #[.int .i64 7, .int .i64 0, .int .i64 0, .slice none 0 0, .int .i64 0, .int .i64 cl, .int .i64 (ed - 1), .int .i64 fa, .int .i64 0]) q4' u4' k4' l3 m3 hRQ hQG hw4 (by simp)
  have B4 : Below w.heap.size w w4 := B3.trans (upd_below u4 (by intro k hk; simp at hk; omega) B3.size)
  have sb4 := sb3.keep k4
  have W4 := Lib.hid hw4
  clear hw4 u4 q4' u4' k4' q3 l3 m3 B3 sb3 k4
  go_wp2_with fail
  rw [← W4.out]
  clear W4 y4 z0 z1 z2 z3 z4 z5 z6 z7 z8
  (with_reducible refine (refNum5 q4).mono ?_)
  rw [E5.out]
  rintro e w5' ⟨rfl, q5', u5', k5'⟩
  obtain ⟨z0, z1, z2, z3, z4, z5, z6, z7, z8⟩ := cells9 (u5'.blk m4 (by simp; omega))
  have y5 : w5'.frozen? ⟨G, 8, none⟩ = false := (u5'.blk m4 (by simp; omega)).frozen 8
  obtain ⟨w5, hw5⟩ : ∃ W, W = w5'.setCell ⟨G, 8, none⟩ (.int .i64 le) := ⟨_, rfl⟩
  obtain ⟨q5, l5, m5, u5, k5⟩ := refReadStepM (m2 := #[.int .i64 7, .int .i64 0, .int .i64 0, .slice none 0 0, .int .i64 0, .int .i64 cl, .int .i64 (ed - 1), .int .i64 fa, .int .i64 le]) q5' u5' k5' l4 m4 hRQ hQG hw5 (by simp)
  have B5 : Below w.heap.size w w5 := B4.trans (upd_below u5 (by intro k hk; simp at hk; omega) B4.size)
  have sb5 := sb4.keep k5
  have W5 := Lib.hid hw5
  clear hw5 u5 q5' u5' k5' q4 l4 m4 B4 sb4 k5
  go_wp2_with fail
  rw [← W5.out]
  clear W5 y5 z0 z1 z2 z3 z4 z5 z6 z7 z8
  obtain ⟨r, hr⟩ : ∃ r, r = Mp.msgEnc ⟨7, 0, 0, [], 0, ⟨cl, ed - 1, fa, le⟩⟩ := ⟨_, rfl⟩
  have HM := refMessage ⟨7, 0, 0, [], 0, ⟨cl, ed - 1, fa, le⟩⟩ none 0 w5 (Seg.nil _ _ _)
  rw [← hr] at HM
  have HR := Lib.hid (by have h := HR.out; rw [← hr] at h; exact h : Mp.msgDecR b = if s5.2 = false ∧ s5.1.length = 0 ∧ r = some b then some ⟨7, 0, 0, [], 0, ⟨cl, ed - 1, fa, le⟩⟩ else none)
  clear hr
  simp only [mv, List.length_nil] at HM
  have HM := Lib.hid HM
  (with_reducible refine HM.out.mono ?_)
  rintro e v1 ⟨bM, hM⟩
  have qv := q5.upd (Upd.of_below bM []) (Keep.of_below bM) (by simp)
  have lv := l5.below bM l5.lt
  have mvv := m5.below bM m5.lt
  have Bv := B5.trans (bM.mono B5.size)
  have sbv := sb5.below bM
  obtain ⟨t, sp⟩ := s5
  have HD := Lib.hid (refDone qv)
  simp only at HR HD
  have hne : w.heap.size ≠ G := by omega
  clear HM
  cases r with
  | none =>
    obtain rfl := hM
    have HR2 := Lib.hid (show Mp.msgDecR b = none by rw [HR.out, if_neg (by simp)])
    clear HR
    go_wp2_with fail
    (with_reducible refine HD.out.mono ?_)
    rintro e v2 ⟨rfl, nd, hv2⟩
    have l9 := lv.drewN nd
    have B9 : Below w.heap.size w (v1.drewN nd) := (Upd.of_below Bv []).drewN nd |>.to_below
    rw [← hv2] at l9 B9
    clear hv2 HD
    obtain ⟨t0, t1, t2, t3, t4, t5, t6, t7, t8⟩ := cells9 l9
    have fz : ∀ i, v2.frozen? ⟨w.heap.size, i, none⟩ = false := fun i => l9.frozen i
    generalize (!sp && t.length == 0) = dn
    cases dn
    all_goals
      go_wp2_with fail
      obtain ⟨g1, g2, g3⟩ := set9 l9 (.int .i64 0) (.int .i64 0) (.int .i64 0) (.slice none 0 0) (.int .i64 0) (.int .i64 0) (.int .i64 0) (.int .i64 0) (.int .i64 0) _ rfl
      obtain ⟨i0, i1, i2, i3, i4, i5, i6, i7, i8⟩ := cells9 g1
      refine bodyPost_ret (v := .tuple #[.agg #[.int .i64 0, .int .i64 0, .int .i64 0, .slice none 0 0, .int .i64 0, .int .i64 0, .int .i64 0, .int .i64 0, .int .i64 0], .bool false]) (by simp [results, Try.f15, go_sem, i0, i1, i2, i3, i4, i5, i6, i7, i8]) rfl ?_
      rw [HR2.out]
      exact ⟨B9.trans (upd_below g2 (by simp) B9.size), rfl⟩
  | some L =>
    obtain ⟨AL, cL, rfl, oL, fL⟩ := hM
    go_wp2_with fail
    (with_reducible refine HD.out.mono ?_)
    rintro e v2 ⟨rfl, nd, hv2⟩
    have l9 := lv.drewN nd
    have m9 := mvv.drewN nd
    have B9 : Below w.heap.size w (v1.drewN nd) := (Upd.of_below Bv []).drewN nd |>.to_below
    have sb9 : Seg (v1.drewN nd) 5 A (bv b) := sbv
    have oL9 : Seg (v1.drewN nd) 5 AL (bv L) := oL.seg
    have bM9 : Below w5.heap.size w5 (v1.drewN nd) := (Upd.of_below bM []).drewN nd |>.to_below
    rw [← hv2] at l9 m9 B9 sb9 oL9 bM9
    clear hv2 HD
    obtain ⟨t0, t1, t2, t3, t4, t5, t6, t7, t8⟩ := cells9 l9
    obtain ⟨j0, j1, j2, j3, j4, j5, j6, j7, j8⟩ := cells9 m9
    have fz : ∀ i, v2.frozen? ⟨w.heap.size, i, none⟩ = false := fun i => l9.frozen i
    have hcs := run_str L AL cL v2 oL9
    have hcb := run_str b A c v2 sb9
    by_cases hdn : sp = false ∧ t.length = 0
    · have hd : (!sp && t.length == 0) = true := by rw [hdn.1]; simp [hdn.2]
      rw [hd]
      by_cases hLb : L = b
      · have HR2 := Lib.hid (show Mp.msgDecR b = some ⟨7, 0, 0, [], 0, ⟨cl, ed - 1, fa, le⟩⟩ by rw [HR.out, if_pos ⟨hdn.1, hdn.2, by rw [hLb]⟩])
        have hq : (L == b) = true := by simpa using hLb
        clear hLb hdn hd HR
        go_wp2_with fail
        generalize hv : (!(L == b)) = v
        cases v
        rotate_left
        · rw [hq] at hv; cases hv
        clear hv hq
        go_wp2_with fail
        obtain ⟨g1, g2, g3⟩ := set9 l9 (.int .i64 7) (.int .i64 0) (.int .i64 0) (.slice none 0 0) (.int .i64 0) (.int .i64 cl) (.int .i64 (ed - 1)) (.int .i64 fa) (.int .i64 le) _ rfl
        obtain ⟨i0, i1, i2, i3, i4, i5, i6, i7, i8⟩ := cells9 g1
        refine bodyPost_ret (v := .tuple #[.agg #[.int .i64 7, .int .i64 0, .int .i64 0, .slice none 0 0, .int .i64 0, .int .i64 cl, .int .i64 (ed - 1), .int .i64 fa, .int .i64 le], .bool true]) (by simp [results, Try.f15, go_sem, i0, i1, i2, i3, i4, i5, i6, i7, i8]) rfl ?_
        rw [HR2.out]
        refine ⟨B9.trans (upd_below g2 (by simp) B9.size), none, 0, rfl, by simp, Seg.nil _ _ _, fun a ha => by cases ha⟩
      · have HR2 := Lib.hid (show Mp.msgDecR b = none by rw [HR.out, if_neg (fun h => hLb (by simpa using h.2.2))])
        have hq : (L == b) = false := by simpa using hLb
        clear hLb hdn hd HR
        go_wp2_with fail
        generalize hv : (!(L == b)) = v
        cases v
        · rw [hq] at hv; cases hv
        clear hv hq
        go_wp2_with fail
        obtain ⟨g1, g2, g3⟩ := set9 l9 (.int .i64 0) (.int .i64 0) (.int .i64 0) (.slice none 0 0) (.int .i64 0) (.int .i64 0) (.int .i64 0) (.int .i64 0) (.int .i64 0) _ rfl
        obtain ⟨i0, i1, i2, i3, i4, i5, i6, i7, i8⟩ := cells9 g1
        refine bodyPost_ret (v := .tuple #[.agg #[.int .i64 0, .int .i64 0, .int .i64 0, .slice none 0 0, .int .i64 0, .int .i64 0, .int .i64 0, .int .i64 0, .int .i64 0], .bool false]) (by simp [results, Try.f15, go_sem, i0, i1, i2, i3, i4, i5, i6, i7, i8]) rfl ?_
        rw [HR2.out]
        exact ⟨B9.trans (upd_below g2 (by simp) B9.size), rfl⟩
    · have HR2 := Lib.hid (show Mp.msgDecR b = none by rw [HR.out, if_neg (fun h => hdn ⟨h.1, h.2.1⟩)])
      have hd : (!sp && t.length == 0) = false := by
        cases sp
        · simpa using hdn
        · rfl
      rw [hd]
      clear hdn hd HR hcs hcb
      go_wp2_with fail
      obtain ⟨g1, g2, g3⟩ := set9 l9 (.int .i64 0) (.int .i64 0) (.int .i64 0) (.slice none 0 0) (.int .i64 0) (.int .i64 0) (.int .i64 0) (.int .i64 0) (.int .i64 0) _ rfl
      obtain ⟨i0, i1, i2, i3, i4, i5, i6, i7, i8⟩ := cells9 g1
      refine bodyPost_ret (v := .tuple #[.agg #[.int .i64 0, .int .i64 0, .int .i64 0, .slice none 0 0, .int .i64 0, .int .i64 0, .int .i64 0, .int .i64 0, .int .i64 0], .bool false]) (by simp [results, Try.f15, go_sem, i0, i1, i2, i3, i4, i5, i6, i7, i8]) rfl ?_
      rw [HR2.out]
      exact ⟨B9.trans (upd_below g2 (by simp) B9.size), rfl⟩

set_option maxRecDepth 100000 in
set_option maxHeartbeats 1000000 in
theorem refRM0 (A : Option Addr) (b : Mp.Bytes) (c : Nat) (w : World) (hs : Seg w 5 A (bv b)) (hcap : b.length ≤ c) (kd : Int) (hk : (Mp.rnum 1 (b, false)).1 = kd) (k1 : ¬ kd = 1) (k2 : ¬ kd = 2) (k9 : ¬ kd = 9) (k5 : ¬ kd = 5) (k7 : ¬ kd = 7) :
    Calls Try.prog 15 #[.slice A b.length c] w (RetRM w (Mp.msgDecR b)) := by
  obtain ⟨s1, e1⟩ : ∃ s, Mp.rnum 1 (b, false) = (kd, s) := ⟨_, Prod.ext hk rfl⟩
  have HR := Lib.hid (show Mp.msgDecR b = if s1.2 = false ∧ s1.1.length = 0 ∧ Mp.msgEnc ⟨kd, 0, 0, [], 0, .zero⟩ = some b then some ⟨kd, 0, 0, [], 0, .zero⟩ else none by
    have hmo : Mp.msgOfR b = (⟨kd, 0, 0, [], 0, .zero⟩, s1) := by
      unfold Mp.msgOfR
      simp only [e1]
      rw [if_neg k1, if_neg (by omega), if_neg k5, if_neg k7]
    unfold Mp.msgDecR
    rw [hmo])
  have E1 := Lib.hid e1
  have d1 : (kd == 1) = false := by simpa using k1
  have d2 : (kd == 2) = false := by simpa using k2
  have d9 : (kd == 9) = false := by simpa using k9
  have d5 : (kd == 5) = false := by simpa using k5
  have d7 : (kd == 7) = false := by simpa using k7
  clear e1 hk k1 k2 k9 k5 k7
  have l0 := (Blk.newAt w 44 #[.int .i64 0, .int .i64 0, .int .i64 0, .slice none 0 0, .int .i64 0, .int .i64 0, .int .i64 0, .int .i64 0, .int .i64 0] _ rfl).alloc (.cells #[.slice A b.length c, .bool false] 76)
  have q0 : IsQ ((w.alloc (.cells #[.int .i64 0, .int .i64 0, .int .i64 0, .slice none 0 0, .int .i64 0, .int .i64 0, .int .i64 0, .int .i64 0, .int .i64 0] 44)).alloc (.cells #[.slice A b.length c, .bool false] 76)) (w.heap.size + 1) (b, false) :=
    ⟨A, c, Blk.newAt _ _ _ _ (by simp), hcap, trivial, (hs.alloc _).alloc _⟩
  have B0 : Below w.heap.size w ((w.alloc (.cells #[.int .i64 0, .int .i64 0, .int .i64 0, .slice none 0 0, .int .i64 0, .int .i64 0, .int .i64 0, .int .i64 0, .int .i64 0] 44)).alloc (.cells #[.slice A b.length c, .bool false] 76)) := ((Below.refl _ w).alloc (Nat.le_refl _) _).alloc (by simp) _
  go_enter Try.func15, Try.ntmps15
  go_wp2_with fail
  (with_reducible refine (refNum1 q0).mono ?_)
  rw [E1.out]
  rintro e w1' ⟨rfl, q1', u1', k1'⟩
  have hzz := u1'.size
  simp at hzz
  have l1' := u1'.blk l0 (by simp)
  have B1' := B0.trans (upd_below (B := w.heap.size) u1' (by simp) B0.size)
  obtain ⟨w1, hw1⟩ : ∃ W, W = w1'.alloc (.cells #[.int .i64 kd, .int .i64 0, .int .i64 0, .slice none 0 0, .int .i64 0, .int .i64 0, .int .i64 0, .int .i64 0, .int .i64 0] 44) := ⟨_, rfl⟩
  have q1 : IsQ w1 (w.heap.size + 1) s1 := by rw [hw1]; exact q1'.upd ((Upd.refl [] w1').alloc _) ((Keep.refl _ w1').alloc _) (by simp)
  have l1 : Blk w1 w.heap.size 44 #[.int .i64 0, .int .i64 0, .int .i64 0, .slice none 0 0, .int .i64 0, .int .i64 0, .int .i64 0, .int .i64 0, .int .i64 0] := by rw [hw1]; exact l1'.alloc _
  have m1 : Blk w1 w1'.heap.size 44 #[.int .i64 kd, .int .i64 0, .int .i64 0, .slice none 0 0, .int .i64 0, .int .i64 0, .int .i64 0, .int .i64 0, .int .i64 0] := by rw [hw1]; exact Blk.newAt _ _ _ _ rfl
  have B1 : Below w.heap.size w w1 := by rw [hw1]; exact B1'.alloc B1'.size _
  have sb1 : Seg w1 5 A (bv b) := hs.below B1
  have hRQ : w.heap.size < w.heap.size + 1 := Nat.lt_succ_self _
  have hQG : w.heap.size + 1 < w1'.heap.size := by omega
  obtain ⟨G, hG⟩ : ∃ G, G = w1'.heap.size := ⟨_, rfl⟩
  have W1 := Lib.hid hw1
  obtain ⟨y0, y1, y2, y3, y4, y5, y6, y7, y8⟩ := cells9 m1
  clear hw1 q1' u1' k1' q0 l0 B0 l1' B1' hzz
  go_wp2_with fail
  rw [← W1.out]
  rw [← hG] at m1 hQG y0 y1 y2 y3 y4 y5 y6 y7 y8 ⊢
  clear W1 hG y0 y1 y2 y3 y4 y5 y6 y7 y8
  obtain ⟨r, hr⟩ : ∃ r, r = Mp.msgEnc ⟨kd, 0, 0, [], 0, .zero⟩ := ⟨_, rfl⟩
  have HM := refMessage ⟨kd, 0, 0, [], 0, .zero⟩ none 0 w1 (Seg.nil _ _ _)
  rw [← hr] at HM
  have HR := Lib.hid (by have h := HR.out; rw [← hr] at h; exact h : Mp.msgDecR b = if s1.2 = false ∧ s1.1.length = 0 ∧ r = some b then some ⟨kd, 0, 0, [], 0, .zero⟩ else none)
  clear hr
  simp only [mv, List.length_nil, Mp.Hint.zero] at HM
  have HM := Lib.hid HM
  (with_reducible refine HM.out.mono ?_)
  rintro e v1 ⟨bM, hM⟩
  have qv := q1.upd (Upd.of_below bM []) (Keep.of_below bM) (by simp)
  have lv := l1.below bM l1.lt
  have mvv := m1.below bM m1.lt
  have Bv := B1.trans (bM.mono B1.size)
  have sbv := sb1.below bM
  obtain ⟨t, sp⟩ := s1
  have HD := Lib.hid (refDone qv)
  simp only at HR HD
  have hne : w.heap.size ≠ G := by omega
  clear HM
  cases r with
  | none =>
    obtain rfl := hM
    have HR2 := Lib.hid (show Mp.msgDecR b = none by rw [HR.out, if_neg (by simp)])
    clear HR
    go_wp2_with fail
    (with_reducible refine HD.out.mono ?_)
    rintro e v2 ⟨rfl, nd, hv2⟩
    have l9 := lv.drewN nd
    have B9 : Below w.heap.size w (v1.drewN nd) := (Upd.of_below Bv []).drewN nd |>.to_below
    rw [← hv2] at l9 B9
    clear hv2 HD
    obtain ⟨t0, t1, t2, t3, t4, t5, t6, t7, t8⟩ := cells9 l9
    have fz : ∀ i, v2.frozen? ⟨w.heap.size, i, none⟩ = false := fun i => l9.frozen i
    generalize (!sp && t.length == 0) = dn
    cases dn
    all_goals
      go_wp2_with fail
      obtain ⟨g1, g2, g3⟩ := set9 l9 (.int .i64 0) (.int .i64 0) (.int .i64 0) (.slice none 0 0) (.int .i64 0) (.int .i64 0) (.int .i64 0) (.int .i64 0) (.int .i64 0) _ rfl
      obtain ⟨i0, i1, i2, i3, i4, i5, i6, i7, i8⟩ := cells9 g1
      refine bodyPost_ret (v := .tuple #[.agg #[.int .i64 0, .int .i64 0, .int .i64 0, .slice none 0 0, .int .i64 0, .int .i64 0, .int .i64 0, .int .i64 0, .int .i64 0], .bool false]) (by simp [results, Try.f15, go_sem, i0, i1, i2, i3, i4, i5, i6, i7, i8]) rfl ?_
      rw [HR2.out]
      exact ⟨B9.trans (upd_below g2 (by simp) B9.size), rfl⟩
  | some L =>
    obtain ⟨AL, cL, rfl, oL, fL⟩ := hM
    go_wp2_with fail
    (with_reducible refine HD.out.mono ?_)
    rintro e v2 ⟨rfl, nd, hv2⟩
    have l9 := lv.drewN nd
    have m9 := mvv.drewN nd
    have B9 : Below w.heap.size w (v1.drewN nd) := (Upd.of_below Bv []).drewN nd |>.to_below
    have sb9 : Seg (v1.drewN nd) 5 A (bv b) := sbv
    have oL9 : Seg (v1.drewN nd) 5 AL (bv L) := oL.seg
    have bM9 : Below w1.heap.size w1 (v1.drewN nd) := (Upd.of_below bM []).drewN nd |>.to_below
    rw [← hv2] at l9 m9 B9 sb9 oL9 bM9
    clear hv2 HD
    obtain ⟨t0, t1, t2, t3, t4, t5, t6, t7, t8⟩ := cells9 l9
    obtain ⟨j0, j1, j2, j3, j4, j5, j6, j7, j8⟩ := cells9 m9
    have fz : ∀ i, v2.frozen? ⟨w.heap.size, i, none⟩ = false := fun i => l9.frozen i
    have hcs := run_str L AL cL v2 oL9
    have hcb := run_str b A c v2 sb9
    by_cases hdn : sp = false ∧ t.length = 0
    · have hd : (!sp && t.length == 0) = true := by rw [hdn.1]; simp [hdn.2]
      rw [hd]
      by_cases hLb : L = b
      · have HR2 := Lib.hid (show Mp.msgDecR b = some ⟨kd, 0, 0, [], 0, .zero⟩ by rw [HR.out, if_pos ⟨hdn.1, hdn.2, by rw [hLb]⟩])
        have hq : (L == b) = true := by simpa using hLb
        clear hLb hdn hd HR
        go_wp2_with fail
        generalize hv : (!(L == b)) = v
        cases v
        rotate_left
        · rw [hq] at hv; cases hv
        clear hv hq
        go_wp2_with fail
        obtain ⟨g1, g2, g3⟩ := set9 l9 (.int .i64 kd) (.int .i64 0) (.int .i64 0) (.slice none 0 0) (.int .i64 0) (.int .i64 0) (.int .i64 0) (.int .i64 0) (.int .i64 0) _ rfl
        obtain ⟨i0, i1, i2, i3, i4, i5, i6, i7, i8⟩ := cells9 g1
        refine bodyPost_ret (v := .tuple #[.agg #[.int .i64 kd, .int .i64 0, .int .i64 0, .slice none 0 0, .int .i64 0, .int .i64 0, .int .i64 0, .int .i64 0, .int .i64 0], .bool true]) (by simp [results, Try.f15, go_sem, i0, i1, i2, i3, i4, i5, i6, i7, i8]) rfl ?_
        rw [HR2.out]
        refine ⟨B9.trans (upd_below g2 (by simp) B9.size), none, 0, rfl, by simp, Seg.nil _ _ _, fun a ha => by cases ha⟩
      · have HR2 := Lib.hid (show Mp.msgDecR b = none by rw [HR.out, if_neg (fun h => hLb (by simpa using h.2.2))])
        have hq : (L == b) = false := by simpa using hLb
        clear hLb hdn hd HR
        go_wp2_with fail
        generalize hv : (!(L == b)) = v
        cases v
        · rw [hq] at hv; cases hv
        clear hv hq
        go_wp2_with fail
        obtain ⟨g1, g2, g3⟩ := set9 l9 (.int .i64 0) (.int .i64 0) (.int .i64 0) (.slice none 0 0) (.int .i64 0) (.int .i64 0) (.int .i64 0) (.int .i64 0) (.int .i64 0) _ rfl
        obtain ⟨i0, i1, i2, i3, i4, i5, i6, i7, i8⟩ := cells9 g1
        refine bodyPost_ret (v := .tuple #[.agg #[.int .i64 0, .int .i64 0, .int .i64 0, .slice none 0 0, .int .i64 0, .int .i64 0, .int .i64 0, .int .i64 0, .int .i64 0], .bool false]) (by simp [results, Try.f15, go_sem, i0, i1, i2, i3, i4, i5, i6, i7, i8]) rfl ?_
        rw [HR2.out]
        exact ⟨B9.trans (upd_below g2 (by simp) B9.size), rfl⟩
    · have HR2 := Lib.hid (show Mp.msgDecR b = none by rw [HR.out, if_neg (fun h => hdn ⟨h.1, h.2.1⟩)])
      have hd : (!sp && t.length == 0) = false := by
        cases sp
        · simpa using hdn
        · rfl
      rw [hd]
      clear hdn hd HR hcs hcb
      go_wp2_with fail
      obtain ⟨g1, g2, g3⟩ := set9 l9 (.int .i64 0) (.int .i64 0) (.int .i64 0) (.slice none 0 0) (.int .i64 0) (.int .i64 0) (.int .i64 0) (.int .i64 0) (.int .i64 0) _ rfl
      obtain ⟨i0, i1, i2, i3, i4, i5, i6, i7, i8⟩ := cells9 g1
      refine bodyPost_ret (v := .tuple #[.agg #[.int .i64 0, .int .i64 0, .int .i64 0, .slice none 0 0, .int .i64 0, .int .i64 0, .int .i64 0, .int .i64 0, .int .i64 0], .bool false]) (by simp [results, Try.f15, go_sem, i0, i1, i2, i3, i4, i5, i6, i7, i8]) rfl ?_
      rw [HR2.out]
      exact ⟨B9.trans (upd_below g2 (by simp) B9.size), rfl⟩

set_option maxRecDepth 100000 in
set_option maxHeartbeats 1000000 in
theorem refRM5 (A : Option Addr) (b : Mp.Bytes) (c : Nat) (w : World) (hs : Seg w 5 A (bv b)) (hcap : b.length ≤ c) (hk : (Mp.rnum 1 (b, false)).1 = 5) :
    Calls Try.prog 15 #[.slice A b.length c] w (RetRM w (Mp.msgDecR b)) := by
  obtain ⟨s1, e1⟩ : ∃ s, Mp.rnum 1 (b, false) = (5, s) := ⟨_, Prod.ext hk rfl⟩
  obtain ⟨wt, s2, e2⟩ : ∃ x y, Mp.rnum 5 s1 = (x, y) := ⟨_, _, rfl⟩
  obtain ⟨n, s3, e3⟩ : ∃ x y, Mp.rnum 2 s2 = (x, y) := ⟨_, _, rfl⟩
  have r3 := Mp.rnum_lt 2 s2
  have r3' : 0 ≤ n ∧ n < 65536 := by rw [show Mp.rnum ((2 : Nat) : Int) s2 = (n, s3) from e3] at r3; exact r3
  clear r3
  obtain ⟨N, hN⟩ := Int.eq_ofNat_of_zero_le r3'.1
  subst hN
  have hmo := Lib.hid (show Mp.msgOfR b = (⟨5, 0, 0, (Mp.redgesR N s3).1, wt, .zero⟩, (Mp.redgesR N s3).2) by
      unfold Mp.msgOfR
      simp only [e1, e2, e3]
      rfl)
  have E3 := Lib.hid e3
  clear e3
  have E1 := Lib.hid e1
  have E2 := Lib.hid e2
  clear e1 e2 hk
  have l0 := (Blk.newAt w 44 #[.int .i64 0, .int .i64 0, .int .i64 0, .slice none 0 0, .int .i64 0, .int .i64 0, .int .i64 0, .int .i64 0, .int .i64 0] _ rfl).alloc (.cells #[.slice A b.length c, .bool false] 76)
  have q0 : IsQ ((w.alloc (.cells #[.int .i64 0, .int .i64 0, .int .i64 0, .slice none 0 0, .int .i64 0, .int .i64 0, .int .i64 0, .int .i64 0, .int .i64 0] 44)).alloc (.cells #[.slice A b.length c, .bool false] 76)) (w.heap.size + 1) (b, false) :=
    ⟨A, c, Blk.newAt _ _ _ _ (by simp), hcap, trivial, (hs.alloc _).alloc _⟩
  have B0 : Below w.heap.size w ((w.alloc (.cells #[.int .i64 0, .int .i64 0, .int .i64 0, .slice none 0 0, .int .i64 0, .int .i64 0, .int .i64 0, .int .i64 0, .int .i64 0] 44)).alloc (.cells #[.slice A b.length c, .bool false] 76)) := ((Below.refl _ w).alloc (Nat.le_refl _) _).alloc (by simp) _
  go_enter Try.func15, Try.ntmps15
  go_wp2_with fail
  (with_reducible refine (refNum1 q0).mono ?_)
  rw [E1.out]
  rintro e w1' ⟨rfl, q1', u1', k1'⟩
  have hzz := u1'.size
  simp at hzz
  have l1' := u1'.blk l0 (by simp)
  have B1' := B0.trans (upd_below (B := w.heap.size) u1' (by simp) B0.size)
  obtain ⟨w1, hw1⟩ : ∃ W, W = w1'.alloc (.cells #[.int .i64 5, .int .i64 0, .int .i64 0, .slice none 0 0, .int .i64 0, .int .i64 0, .int .i64 0, .int .i64 0, .int .i64 0] 44) := ⟨_, rfl⟩
  have q1 : IsQ w1 (w.heap.size + 1) s1 := by rw [hw1]; exact q1'.upd ((Upd.refl [] w1').alloc _) ((Keep.refl _ w1').alloc _) (by simp)
  have l1 : Blk w1 w.heap.size 44 #[.int .i64 0, .int .i64 0, .int .i64 0, .slice none 0 0, .int .i64 0, .int .i64 0, .int .i64 0, .int .i64 0, .int .i64 0] := by rw [hw1]; exact l1'.alloc _
  have m1 : Blk w1 w1'.heap.size 44 #[.int .i64 5, .int .i64 0, .int .i64 0, .slice none 0 0, .int .i64 0, .int .i64 0, .int .i64 0, .int .i64 0, .int .i64 0] := by rw [hw1]; exact Blk.newAt _ _ _ _ rfl
  have B1 : Below w.heap.size w w1 := by rw [hw1]; exact B1'.alloc B1'.size _
  have sb1 : Seg w1 5 A (bv b) := hs.below B1
  have hRQ : w.heap.size < w.heap.size + 1 := Nat.lt_succ_self _
  have hQG : w.heap.size + 1 < w1'.heap.size := by omega
  obtain ⟨G, hG⟩ : ∃ G, G = w1'.heap.size := ⟨_, rfl⟩
  have W1 := Lib.hid hw1
  obtain ⟨y0, y1, y2, y3, y4, y5, y6, y7, y8⟩ := cells9 m1
  clear hw1 q1' u1' k1' q0 l0 B0 l1' B1' hzz
  go_wp2_with fail
  rw [← W1.out]
  rw [← hG] at m1 hQG y0 y1 y2 y3 y4 y5 y6 y7 y8 ⊢
  clear W1 hG y0 y1 y2 y3 y4 y5 y6 y7 y8
  (with_reducible refine (refNum5 q1).mono ?_)
  rw [E2.out]
  rintro e w2' ⟨rfl, q2', u2', k2'⟩
  obtain ⟨z0, z1, z2, z3, z4, z5, z6, z7, z8⟩ := cells9 (u2'.blk m1 (by simp; omega))
  have y2 : w2'.frozen? ⟨G, 4, none⟩ = false := (u2'.blk m1 (by simp; omega)).frozen 4
  obtain ⟨w2, hw2⟩ : ∃ W, W = w2'.setCell ⟨G, 4, none⟩ (.int .i64 wt) := ⟨_, rfl⟩
  obtain ⟨q2, l2, m2, u2, k2⟩ := refReadStepM (m2 := #[.int .i64 5, .int .i64 0, .int .i64 0, .slice none 0 0, .int .i64 wt, .int .i64 0, .int .i64 0, .int .i64 0, .int .i64 0]) q2' u2' k2' l1 m1 hRQ hQG hw2 (by simp)
  have B2 : Below w.heap.size w w2 := B1.trans (upd_below u2 (by intro k hk; simp at hk; omega) B1.size)
  have sb2 := sb1.keep k2
  have W2 := Lib.hid hw2
  clear hw2 u2 q2' u2' k2' q1 l1 m1 B1 sb1 k2
  go_wp2_with fail
  rw [← W2.out]
  clear W2 y2 z0 z1 z2 z3 z4 z5 z6 z7 z8
  (with_reducible refine (refNum2 q2).mono ?_)
  rw [E3.out]
  rintro e w3 ⟨rfl, q3, u3, k3⟩
  have l3 := u3.blk l2 (by simp)
  have m3 := u3.blk m2 (by simp; omega)
  have B3 := B2.trans (upd_below (B := w.heap.size) u3 (by simp) B2.size)
  obtain ⟨i0, hi, hz0, hz1, hz2⟩ := info_parts i64info
  clear q2 l2 m2 B2 sb2
  go_wp2_with fail
  go_loopw [7] (fun i wr => ∃ k : Nat, k ≤ N ∧ i = .int .i64 k ∧ RouteR w G N s3 wt k wr) (fun i _ => N - (intOf i).toNat)
  case atStart => exact ⟨0, Nat.zero_le _, rfl, [], s3, none, 0, rfl, by simp, q3, l3, m3, OwnS.nil _ _ _ _, by simp [fp], B3⟩
  case round =>
    obtain ⟨k, hk, rfl, es, s, Ae, ce, hel, hre, qk, lk, mk, ok, fk, Bk⟩ := hrel
    have HE := Lib.hid hre
    clear hre
    by_cases hlt : k < N
    · obtain ⟨t, sp⟩ := s
      obtain ⟨AQ, cQ, hQb, _⟩ := id qk
      simp only at hQb
      have cQ1 : wr.cell? ⟨w.heap.size + 1, 1, none⟩ = some (.bool sp) := hQb.cell 1
      cases sp
      · obtain ⟨x, s', hx⟩ : ∃ x s', Mp.rnum 2 (t, false) = (x, s') := ⟨_, _, rfl⟩
        have HE2 := Lib.hid (show Mp.redgesR N s3 = ((es ++ [x]) ++ (Mp.redgesR (N - (k + 1)) s').1, (Mp.redgesR (N - (k + 1)) s').2) by
          rw [HE.out, show N - k = (N - (k + 1)) + 1 by omega, Mp.redgesR, if_neg (by simp), hx]
          simp)
        have HN := refNum2 (w := wr.drew) (g := w.heap.size + 1) (s := (t, false)) qk
        rw [hx] at HN
        have HN := Lib.hid HN
        have HEL := Lib.hid hel
        clear HE hx hel
        have hGQ : G ∉ [w.heap.size + 1] := by simp; omega
        have mkd : Blk wr.drew G 44 #[.int .i64 5, .int .i64 0, .int .i64 0, .slice Ae k ce, .int .i64 wt, .int .i64 0, .int .i64 0, .int .i64 0, .int .i64 0] := mk
        have ck : wr.cell? ⟨G, 3, none⟩ = some (.slice Ae k ce) := mk.cell 3
        have H63 := Lib.hid (show k + 1 ≤ maxLen from le_maxLen (by omega))
        have H48 := Lib.hid (show (k + 1) * 8 ≤ 140737488355328 by omega)
        have hgf := ok.fp_ne mk (by decide)
        have hrf := ok.fp_ne lk (by decide)
        have hqf := ok.fp_ne hQb (by decide)
        have hokd : OwnS wr.drew 3 1 Ae k ce (iv es) := ok.below (Below.refl _ wr).drew
        go_wp2_with fail
        (refine wp_region_held_drew (S := fun _ => True) (by kernel_rfl) (trivial) (fun hS => ?_))
        (refine wpAnyH_take (i := 0) (v := ?_) rfl (by kernel_rfl) (by kernel_rfl) (by kernel_rfl) (fun _ _ _ h => h) (Or.inl ⟨by rfl, ?_⟩) hS ?_; rotate_left; (focus (intro w' hSw; (try dsimp only at hSw); go_simp; try (with_reducible rfl))); (try simp only [List.getElem_toArray, List.getElem_cons_zero, Act.put, List.setIfInBounds_toArray, List.set_cons_zero, List.set_cons_succ]))
        (refine wpAnyH_take (i := 2) (v := ?_) rfl (by kernel_rfl) (by kernel_rfl) (by kernel_rfl) (fun _ _ _ h => h) (Or.inl ⟨by rfl, ?_⟩) hS ?_; rotate_left; (focus (intro w' hSw; (try dsimp only at hSw); go_simp; try (with_reducible rfl))); (try simp only [List.getElem_toArray, List.getElem_cons_succ, List.getElem_cons_zero, Act.put, List.setIfInBounds_toArray, List.set_cons_zero, List.set_cons_succ]))
        (refine wpAnyH_ready (rs := [1, 3]) (by kernel_rfl) (by simp) (AllReadyH.cons rfl (fun K hK => ?_) (AllReadyH.cons rfl (fun K hK => ?_) AllReadyH.nil)))
        · skip
          go_simp
          refine hK.out _ _ ?_ (fun hS => ?_)
          · exact trivial
          clear hK K
          (try simp only [List.getElem_toArray, List.getElem_cons_succ, List.getElem_cons_zero, Act.put, List.setIfInBounds_toArray, List.set_cons_zero, List.set_cons_succ])
          (refine wpAnyH_ready (rs := [3]) (by kernel_rfl) (by simp) (AllReadyH.cons rfl (fun K hK => ?_) AllReadyH.nil))
          go_simp
          (with_reducible refine HN.out.mono ?_)
          rintro e w5 ⟨rfl, q5, u5, k5⟩
          have m5 := u5.blk mkd hGQ
          have c5 : w5.cell? ⟨G, 3, none⟩ = some (.slice Ae k ce) := m5.cell 3
          have c5a : (w5.alloc (.cells #[.int .i64 x] 3)).cell? ⟨G, 3, none⟩ = some (.slice Ae k ce) := (m5.alloc _).cell 3
          have O5 := Lib.hid (show OwnS (w5.alloc (.cells #[.int .i64 x] 3)) 3 1 Ae k ce (iv es) from (hokd.upd u5 (fun j hj e => by simp at e; subst e; exact hqf hj)).below ((Below.refl _ _).alloc (Nat.le_refl _) _))
          have S5 := Lib.hid (Seg.newAt w5 3 [.int .i64 x] w5.heap.size rfl)
          refine hK.out _ _ ?_ (fun hS => ?_)
          · exact trivial
          clear hK K
          (try simp only [List.getElem_toArray, List.getElem_cons_succ, List.getElem_cons_zero, Act.put, List.setIfInBounds_toArray, List.set_cons_zero, List.set_cons_succ])
          (refine wpAnyH_ready (rs := [4]) (by kernel_rfl) (by simp) (AllReadyH.cons rfl (fun K hK => ?_) AllReadyH.nil))
          go_simp
          refine hK.out _ _ ?_ (fun hS => ?_)
          · exact trivial
          clear hK K
          (try simp only [List.getElem_toArray, List.getElem_cons_succ, List.getElem_cons_zero, Act.put, List.setIfInBounds_toArray, List.set_cons_zero, List.set_cons_succ])
          (refine wpAnyH_ready (rs := [5]) (by kernel_rfl) (by simp) (AllReadyH.cons rfl (fun K hK => ?_) AllReadyH.nil))
          refine step_append_s _ (by rfl) _ _ _ (by rfl) 3 3 i0 (.int .i64 0) 1 8 Try.underlying22 hi hz0 hz1 hz2 rfl Ae k ce (iv es) (by rfl) O5.out (some ⟨w5.heap.size, 0, none⟩) 1 1 [.int .i64 x] (by rfl) rfl S5.out (by simp [Value.oneCell']) H63.out H48.out ?_
          intro A' cap' w6 hown hup hfp
          have m6 := hup.blk (m5.alloc _) hgf
          have c6 : w6.cell? ⟨G, 3, none⟩ = some (.slice Ae k ce) := m6.cell 3
          have f6 : w6.frozen? ⟨G, 3, none⟩ = false := m6.frozen 3
          refine hK.out _ _ ?_ (fun hS => ?_)
          · exact trivial
          clear hK K
          (try simp only [List.getElem_toArray, List.getElem_cons_succ, List.getElem_cons_zero, Act.put, List.setIfInBounds_toArray, List.set_cons_zero, List.set_cons_succ])
          (refine wpAnyH_take (i := 6) (v := ?_) rfl (by kernel_rfl) (by kernel_rfl) (by kernel_rfl) (fun _ _ _ h => h) (Or.inl ⟨by rfl, ?_⟩) hS ?_; rotate_left; (focus (intro w' hSw; (try dsimp only at hSw); go_simp; try (with_reducible rfl))); (try simp only [List.getElem_toArray, List.getElem_cons_succ, List.getElem_cons_zero, Act.put, List.setIfInBounds_toArray, List.set_cons_zero, List.set_cons_succ]))
          (refine wpAnyH_ready (rs := [7]) (by kernel_rfl) (by simp) (AllReadyH.cons rfl (fun K hK => ?_) AllReadyH.nil))
          go_simp
          refine hK.out _ _ ?_ (fun hS => ?_)
          · exact trivial
          clear hK K
          (try simp only [List.getElem_toArray, List.getElem_cons_succ, List.getElem_cons_zero, Act.put, List.setIfInBounds_toArray, List.set_cons_zero, List.set_cons_succ])
          (refine wpAnyH_done (by kernel_rfl) ?_ _)
          have hz5 := u5.size
          have q6 := (q5.upd ((Upd.refl [] w5).alloc (.cells #[.int .i64 x] 3)) ((Keep.refl _ w5).alloc _) (by simp)).upd hup (O5.out.keep_ne hup (by decide)) hqf
          have l6 := hup.blk ((u5.blk (show Blk wr.drew w.heap.size 44 #[.int .i64 0, .int .i64 0, .int .i64 0, .slice none 0 0, .int .i64 0, .int .i64 0, .int .i64 0, .int .i64 0, .int .i64 0] from lk) (by simp)).alloc _) hrf
          obtain ⟨n1, n2, n3⟩ := store1 (i := 3) (cs1 := #[.int .i64 5, .int .i64 0, .int .i64 0, .slice A' (k + 1) cap', .int .i64 wt, .int .i64 0, .int .i64 0, .int .i64 0, .int .i64 0]) m6 (.slice A' (k + 1) cap') _ rfl (by simp)
          have hQG2 : w.heap.size + 1 ∉ [G] := by simp; omega
          have hRG2 : w.heap.size ∉ [G] := by simp; omega
          have q7 := q6.upd n2 (n3 _ (by decide)) hQG2
          have l7 := n2.blk l6 hRG2
          have o7 := hown.keep (n3 3 (by decide))
          have Bd : Below w.heap.size w wr.drew := Bk.drew
          have B5 := (Bd.trans (upd_below (B := w.heap.size) u5 (by simp) Bd.size))
          have B5a := B5.alloc B5.size (.cells #[.int .i64 x] 3)
          have B6 := B5a.trans (upd_below (B := w.heap.size) hup fk B5a.size)
          have B7 := B6.trans (upd_below (B := w.heap.size) n2 (by simp; omega) B6.size)
          have hf7 : ∀ j, j ∈ fp A' cap' → w.heap.size ≤ j := fun j hj => (hfp j hj).elim (fk j) (fun h => Nat.le_trans B5a.size h)
          clear n1 n2 n3 q6 l6 hown c6 f6
          go_wp2_with fail
          refine ⟨⟨k + 1, by omega, by go_num, es ++ [x], s', A', cap', by simp [HEL.out], HE2.out, q7, l7, by simpa using m6.set_ 3 (.slice A' (k + 1) cap'), by rw [iv_append]; exact o7, hf7, B7⟩, by simp [intOf]; omega⟩
        · skip
          go_simp
          (with_reducible refine HN.out.mono ?_)
          rintro e w5 ⟨rfl, q5, u5, k5⟩
          have m5 := u5.blk mkd hGQ
          have c5 : w5.cell? ⟨G, 3, none⟩ = some (.slice Ae k ce) := m5.cell 3
          have c5a : (w5.alloc (.cells #[.int .i64 x] 3)).cell? ⟨G, 3, none⟩ = some (.slice Ae k ce) := (m5.alloc _).cell 3
          have O5 := Lib.hid (show OwnS (w5.alloc (.cells #[.int .i64 x] 3)) 3 1 Ae k ce (iv es) from (hokd.upd u5 (fun j hj e => by simp at e; subst e; exact hqf hj)).below ((Below.refl _ _).alloc (Nat.le_refl _) _))
          have S5 := Lib.hid (Seg.newAt w5 3 [.int .i64 x] w5.heap.size rfl)
          refine hK.out _ _ ?_ (fun hS => ?_)
          · exact trivial
          clear hK K
          (try simp only [List.getElem_toArray, List.getElem_cons_succ, List.getElem_cons_zero, Act.put, List.setIfInBounds_toArray, List.set_cons_zero, List.set_cons_succ])
          (refine wpAnyH_ready (rs := [1, 4]) (by kernel_rfl) (by simp) (AllReadyH.cons rfl (fun K hK => ?_) (AllReadyH.cons rfl (fun K hK => ?_) AllReadyH.nil)))
          · skip
            go_simp
            refine hK.out _ _ ?_ (fun hS => ?_)
            · exact trivial
            clear hK K
            (try simp only [List.getElem_toArray, List.getElem_cons_succ, List.getElem_cons_zero, Act.put, List.setIfInBounds_toArray, List.set_cons_zero, List.set_cons_succ])
            (refine wpAnyH_ready (rs := [4]) (by kernel_rfl) (by simp) (AllReadyH.cons rfl (fun K hK => ?_) AllReadyH.nil))
            go_simp
            refine hK.out _ _ ?_ (fun hS => ?_)
            · exact trivial
            clear hK K
            (try simp only [List.getElem_toArray, List.getElem_cons_succ, List.getElem_cons_zero, Act.put, List.setIfInBounds_toArray, List.set_cons_zero, List.set_cons_succ])
            (refine wpAnyH_ready (rs := [5]) (by kernel_rfl) (by simp) (AllReadyH.cons rfl (fun K hK => ?_) AllReadyH.nil))
            refine step_append_s _ (by rfl) _ _ _ (by rfl) 3 3 i0 (.int .i64 0) 1 8 Try.underlying22 hi hz0 hz1 hz2 rfl Ae k ce (iv es) (by rfl) O5.out (some ⟨w5.heap.size, 0, none⟩) 1 1 [.int .i64 x] (by rfl) rfl S5.out (by simp [Value.oneCell']) H63.out H48.out ?_
            intro A' cap' w6 hown hup hfp
            have m6 := hup.blk (m5.alloc _) hgf
            have c6 : w6.cell? ⟨G, 3, none⟩ = some (.slice Ae k ce) := m6.cell 3
            have f6 : w6.frozen? ⟨G, 3, none⟩ = false := m6.frozen 3
            refine hK.out _ _ ?_ (fun hS => ?_)
            · exact trivial
            clear hK K
            (try simp only [List.getElem_toArray, List.getElem_cons_succ, List.getElem_cons_zero, Act.put, List.setIfInBounds_toArray, List.set_cons_zero, List.set_cons_succ])
            (refine wpAnyH_take (i := 6) (v := ?_) rfl (by kernel_rfl) (by kernel_rfl) (by kernel_rfl) (fun _ _ _ h => h) (Or.inl ⟨by rfl, ?_⟩) hS ?_; rotate_left; (focus (intro w' hSw; (try dsimp only at hSw); go_simp; try (with_reducible rfl))); (try simp only [List.getElem_toArray, List.getElem_cons_succ, List.getElem_cons_zero, Act.put, List.setIfInBounds_toArray, List.set_cons_zero, List.set_cons_succ]))
            (refine wpAnyH_ready (rs := [7]) (by kernel_rfl) (by simp) (AllReadyH.cons rfl (fun K hK => ?_) AllReadyH.nil))
            go_simp
            refine hK.out _ _ ?_ (fun hS => ?_)
            · exact trivial
            clear hK K
            (try simp only [List.getElem_toArray, List.getElem_cons_succ, List.getElem_cons_zero, Act.put, List.setIfInBounds_toArray, List.set_cons_zero, List.set_cons_succ])
            (refine wpAnyH_done (by kernel_rfl) ?_ _)
            have hz5 := u5.size
            have q6 := (q5.upd ((Upd.refl [] w5).alloc (.cells #[.int .i64 x] 3)) ((Keep.refl _ w5).alloc _) (by simp)).upd hup (O5.out.keep_ne hup (by decide)) hqf
            have l6 := hup.blk ((u5.blk (show Blk wr.drew w.heap.size 44 #[.int .i64 0, .int .i64 0, .int .i64 0, .slice none 0 0, .int .i64 0, .int .i64 0, .int .i64 0, .int .i64 0, .int .i64 0] from lk) (by simp)).alloc _) hrf
            obtain ⟨n1, n2, n3⟩ := store1 (i := 3) (cs1 := #[.int .i64 5, .int .i64 0, .int .i64 0, .slice A' (k + 1) cap', .int .i64 wt, .int .i64 0, .int .i64 0, .int .i64 0, .int .i64 0]) m6 (.slice A' (k + 1) cap') _ rfl (by simp)
            have hQG2 : w.heap.size + 1 ∉ [G] := by simp; omega
            have hRG2 : w.heap.size ∉ [G] := by simp; omega
            have q7 := q6.upd n2 (n3 _ (by decide)) hQG2
            have l7 := n2.blk l6 hRG2
            have o7 := hown.keep (n3 3 (by decide))
            have Bd : Below w.heap.size w wr.drew := Bk.drew
            have B5 := (Bd.trans (upd_below (B := w.heap.size) u5 (by simp) Bd.size))
            have B5a := B5.alloc B5.size (.cells #[.int .i64 x] 3)
            have B6 := B5a.trans (upd_below (B := w.heap.size) hup fk B5a.size)
            have B7 := B6.trans (upd_below (B := w.heap.size) n2 (by simp; omega) B6.size)
            have hf7 : ∀ j, j ∈ fp A' cap' → w.heap.size ≤ j := fun j hj => (hfp j hj).elim (fk j) (fun h => Nat.le_trans B5a.size h)
            clear n1 n2 n3 q6 l6 hown c6 f6
            go_wp2_with fail
            refine ⟨⟨k + 1, by omega, by go_num, es ++ [x], s', A', cap', by simp [HEL.out], HE2.out, q7, l7, by simpa using m6.set_ 3 (.slice A' (k + 1) cap'), by rw [iv_append]; exact o7, hf7, B7⟩, by simp [intOf]; omega⟩
          · skip
            go_simp
            refine hK.out _ _ ?_ (fun hS => ?_)
            · exact trivial
            clear hK K
            (try simp only [List.getElem_toArray, List.getElem_cons_succ, List.getElem_cons_zero, Act.put, List.setIfInBounds_toArray, List.set_cons_zero, List.set_cons_succ])
            (refine wpAnyH_ready (rs := [1]) (by kernel_rfl) (by simp) (AllReadyH.cons rfl (fun K hK => ?_) AllReadyH.nil))
            go_simp
            refine hK.out _ _ ?_ (fun hS => ?_)
            · exact trivial
            clear hK K
            (try simp only [List.getElem_toArray, List.getElem_cons_succ, List.getElem_cons_zero, Act.put, List.setIfInBounds_toArray, List.set_cons_zero, List.set_cons_succ])
            (refine wpAnyH_ready (rs := [5]) (by kernel_rfl) (by simp) (AllReadyH.cons rfl (fun K hK => ?_) AllReadyH.nil))
            refine step_append_s _ (by rfl) _ _ _ (by rfl) 3 3 i0 (.int .i64 0) 1 8 Try.underlying22 hi hz0 hz1 hz2 rfl Ae k ce (iv es) (by rfl) O5.out (some ⟨w5.heap.size, 0, none⟩) 1 1 [.int .i64 x] (by rfl) rfl S5.out (by simp [Value.oneCell']) H63.out H48.out ?_
            intro A' cap' w6 hown hup hfp
            have m6 := hup.blk (m5.alloc _) hgf
            have c6 : w6.cell? ⟨G, 3, none⟩ = some (.slice Ae k ce) := m6.cell 3
            have f6 : w6.frozen? ⟨G, 3, none⟩ = false := m6.frozen 3
            refine hK.out _ _ ?_ (fun hS => ?_)
            · exact trivial
            clear hK K
            (try simp only [List.getElem_toArray, List.getElem_cons_succ, List.getElem_cons_zero, Act.put, List.setIfInBounds_toArray, List.set_cons_zero, List.set_cons_succ])
            (refine wpAnyH_take (i := 6) (v := ?_) rfl (by kernel_rfl) (by kernel_rfl) (by kernel_rfl) (fun _ _ _ h => h) (Or.inl ⟨by rfl, ?_⟩) hS ?_; rotate_left; (focus (intro w' hSw; (try dsimp only at hSw); go_simp; try (with_reducible rfl))); (try simp only [List.getElem_toArray, List.getElem_cons_succ, List.getElem_cons_zero, Act.put, List.setIfInBounds_toArray, List.set_cons_zero, List.set_cons_succ]))
            (refine wpAnyH_ready (rs := [7]) (by kernel_rfl) (by simp) (AllReadyH.cons rfl (fun K hK => ?_) AllReadyH.nil))
            go_simp
            refine hK.out _ _ ?_ (fun hS => ?_)
            · exact trivial
            clear hK K
            (try simp only [List.getElem_toArray, List.getElem_cons_succ, List.getElem_cons_zero, Act.put, List.setIfInBounds_toArray, List.set_cons_zero, List.set_cons_succ])
            (refine wpAnyH_done (by kernel_rfl) ?_ _)
            have hz5 := u5.size
            have q6 := (q5.upd ((Upd.refl [] w5).alloc (.cells #[.int .i64 x] 3)) ((Keep.refl _ w5).alloc _) (by simp)).upd hup (O5.out.keep_ne hup (by decide)) hqf
            have l6 := hup.blk ((u5.blk (show Blk wr.drew w.heap.size 44 #[.int .i64 0, .int .i64 0, .int .i64 0, .slice none 0 0, .int .i64 0, .int .i64 0, .int .i64 0, .int .i64 0, .int .i64 0] from lk) (by simp)).alloc _) hrf
            obtain ⟨n1, n2, n3⟩ := store1 (i := 3) (cs1 := #[.int .i64 5, .int .i64 0, .int .i64 0, .slice A' (k + 1) cap', .int .i64 wt, .int .i64 0, .int .i64 0, .int .i64 0, .int .i64 0]) m6 (.slice A' (k + 1) cap') _ rfl (by simp)
            have hQG2 : w.heap.size + 1 ∉ [G] := by simp; omega
            have hRG2 : w.heap.size ∉ [G] := by simp; omega
            have q7 := q6.upd n2 (n3 _ (by decide)) hQG2
            have l7 := n2.blk l6 hRG2
            have o7 := hown.keep (n3 3 (by decide))
            have Bd : Below w.heap.size w wr.drew := Bk.drew
            have B5 := (Bd.trans (upd_below (B := w.heap.size) u5 (by simp) Bd.size))
            have B5a := B5.alloc B5.size (.cells #[.int .i64 x] 3)
            have B6 := B5a.trans (upd_below (B := w.heap.size) hup fk B5a.size)
            have B7 := B6.trans (upd_below (B := w.heap.size) n2 (by simp; omega) B6.size)
            have hf7 : ∀ j, j ∈ fp A' cap' → w.heap.size ≤ j := fun j hj => (hfp j hj).elim (fk j) (fun h => Nat.le_trans B5a.size h)
            clear n1 n2 n3 q6 l6 hown c6 f6
            go_wp2_with fail
            refine ⟨⟨k + 1, by omega, by go_num, es ++ [x], s', A', cap', by simp [HEL.out], HE2.out, q7, l7, by simpa using m6.set_ 3 (.slice A' (k + 1) cap'), by rw [iv_append]; exact o7, hf7, B7⟩, by simp [intOf]; omega⟩
      · have HX := Lib.hid (show Mp.redgesR N s3 = (es, (t, true)) by rw [HE.out, Mp.redgesR_bad _ _ rfl, List.append_nil])
        have hsb := hs.below Bk
        obtain ⟨s9, hs9⟩ : ∃ s9, s9 = (t, true) := ⟨_, rfl⟩
        have HR := Lib.hid (show Mp.msgDecR b = if s9.2 = false ∧ s9.1.length = 0 ∧ Mp.msgEnc ⟨5, 0, 0, es, wt, .zero⟩ = some b then some ⟨5, 0, 0, es, wt, .zero⟩ else none by
          unfold Mp.msgDecR
          rw [hmo.out, HX.out, hs9])
        rw [← hs9] at qk
        clear hs9 HX hmo
        subst hel
        obtain ⟨w9, hw9⟩ : ∃ W, W = wr := ⟨_, rfl⟩
        subst hw9
        have q9 := qk
        have l9' := lk
        have m9' := mk
        have B9' := Bk
        have sb9' := hsb
        have hfr : ∀ a, Ae = some a → 0 < es.length → w.heap.size ≤ a.block := fun a ha h0 => by
          have h1 := ok.le
          obtain ⟨g0, o0, cur, hA0, _⟩ := ok.row (by omega)
          have := fk g0 (by rw [hA0]; simp [fp]; omega)
          rw [ha] at hA0; injection hA0 with hA0; subst hA0
          exact this
        obtain ⟨y0, y1, y2, y3, y4, y5, y6, y7, y8⟩ := cells9 m9'
        clear qk lk mk Bk hsb
        obtain ⟨r, hr⟩ : ∃ r, r = Mp.msgEnc ⟨5, 0, 0, es, wt, .zero⟩ := ⟨_, rfl⟩
        have HM := refMessage ⟨5, 0, 0, es, wt, .zero⟩ Ae ce w9 (ok.seg)
        rw [← hr] at HM
        have HR := Lib.hid (by have h := HR.out; rw [← hr] at h; exact h : Mp.msgDecR b = if s9.2 = false ∧ s9.1.length = 0 ∧ r = some b then some ⟨5, 0, 0, es, wt, .zero⟩ else none)
        clear hr
        simp only [mv, Mp.Hint.zero] at HM
        have HM := Lib.hid HM
        go_wp2_with fail
        clear y0 y1 y2 y3 y4 y5 y6 y7 y8
        (with_reducible refine HM.out.mono ?_)
        rintro e v1 ⟨bM, hM⟩
        have qv := q9.upd (Upd.of_below bM []) (Keep.of_below bM) (by simp)
        have lv := l9'.below bM l9'.lt
        have mvv := m9'.below bM m9'.lt
        have Bv := B9'.trans (bM.mono B9'.size)
        have sbv := sb9'.below bM
        obtain ⟨t, sp⟩ := s9
        have HD := Lib.hid (refDone qv)
        simp only at HR HD
        have hne : w.heap.size ≠ G := by omega
        clear HM
        cases r with
        | none =>
          obtain rfl := hM
          have HR2 := Lib.hid (show Mp.msgDecR b = none by rw [HR.out, if_neg (by simp)])
          clear HR
          go_wp2_with fail
          (with_reducible refine HD.out.mono ?_)
          rintro e v2 ⟨rfl, nd, hv2⟩
          have l9 := lv.drewN nd
          have B9 : Below w.heap.size w (v1.drewN nd) := (Upd.of_below Bv []).drewN nd |>.to_below
          rw [← hv2] at l9 B9
          clear hv2 HD
          obtain ⟨t0, t1, t2, t3, t4, t5, t6, t7, t8⟩ := cells9 l9
          have fz : ∀ i, v2.frozen? ⟨w.heap.size, i, none⟩ = false := fun i => l9.frozen i
          generalize (!sp && t.length == 0) = dn
          cases dn
          all_goals
            go_wp2_with fail
            obtain ⟨g1, g2, g3⟩ := set9 l9 (.int .i64 0) (.int .i64 0) (.int .i64 0) (.slice none 0 0) (.int .i64 0) (.int .i64 0) (.int .i64 0) (.int .i64 0) (.int .i64 0) _ rfl
            obtain ⟨i0, i1, i2, i3, i4, i5, i6, i7, i8⟩ := cells9 g1
            refine bodyPost_ret (v := .tuple #[.agg #[.int .i64 0, .int .i64 0, .int .i64 0, .slice none 0 0, .int .i64 0, .int .i64 0, .int .i64 0, .int .i64 0, .int .i64 0], .bool false]) (by simp [results, Try.f15, go_sem, i0, i1, i2, i3, i4, i5, i6, i7, i8]) rfl ?_
            rw [HR2.out]
            exact ⟨B9.trans (upd_below g2 (by simp) B9.size), rfl⟩
        | some L =>
          obtain ⟨AL, cL, rfl, oL, fL⟩ := hM
          go_wp2_with fail
          (with_reducible refine HD.out.mono ?_)
          rintro e v2 ⟨rfl, nd, hv2⟩
          have l9 := lv.drewN nd
          have m9 := mvv.drewN nd
          have B9 : Below w.heap.size w (v1.drewN nd) := (Upd.of_below Bv []).drewN nd |>.to_below
          have sb9 : Seg (v1.drewN nd) 5 A (bv b) := sbv
          have oL9 : Seg (v1.drewN nd) 5 AL (bv L) := oL.seg
          have bM9 : Below w9.heap.size w9 (v1.drewN nd) := (Upd.of_below bM []).drewN nd |>.to_below
          rw [← hv2] at l9 m9 B9 sb9 oL9 bM9
          clear hv2 HD
          obtain ⟨t0, t1, t2, t3, t4, t5, t6, t7, t8⟩ := cells9 l9
          obtain ⟨j0, j1, j2, j3, j4, j5, j6, j7, j8⟩ := cells9 m9
          have fz : ∀ i, v2.frozen? ⟨w.heap.size, i, none⟩ = false := fun i => l9.frozen i
          have hcs := run_str L AL cL v2 oL9
          have hcb := run_str b A c v2 sb9
          by_cases hdn : sp = false ∧ t.length = 0
          · have hd : (!sp && t.length == 0) = true := by rw [hdn.1]; simp [hdn.2]
            rw [hd]
            by_cases hLb : L = b
            · have HR2 := Lib.hid (show Mp.msgDecR b = some ⟨5, 0, 0, es, wt, .zero⟩ by rw [HR.out, if_pos ⟨hdn.1, hdn.2, by rw [hLb]⟩])
              have hq : (L == b) = true := by simpa using hLb
              clear hLb hdn hd HR
              go_wp2_with fail
              generalize hv : (!(L == b)) = v
              cases v
              rotate_left
              · rw [hq] at hv; cases hv
              clear hv hq
              go_wp2_with fail
              obtain ⟨g1, g2, g3⟩ := set9 l9 (.int .i64 5) (.int .i64 0) (.int .i64 0) (.slice Ae es.length ce) (.int .i64 wt) (.int .i64 0) (.int .i64 0) (.int .i64 0) (.int .i64 0) _ rfl
              obtain ⟨i0, i1, i2, i3, i4, i5, i6, i7, i8⟩ := cells9 g1
              refine bodyPost_ret (v := .tuple #[.agg #[.int .i64 5, .int .i64 0, .int .i64 0, .slice Ae es.length ce, .int .i64 wt, .int .i64 0, .int .i64 0, .int .i64 0, .int .i64 0], .bool true]) (by simp [results, Try.f15, go_sem, i0, i1, i2, i3, i4, i5, i6, i7, i8]) rfl ?_
              rw [HR2.out]
              refine ⟨B9.trans (upd_below g2 (by simp) B9.size), Ae, ce, rfl, ok.le, (ok.seg.below bM9).keep (g3 _ (by decide)), hfr⟩
            · have HR2 := Lib.hid (show Mp.msgDecR b = none by rw [HR.out, if_neg (fun h => hLb (by simpa using h.2.2))])
              have hq : (L == b) = false := by simpa using hLb
              clear hLb hdn hd HR
              go_wp2_with fail
              generalize hv : (!(L == b)) = v
              cases v
              · rw [hq] at hv; cases hv
              clear hv hq
              go_wp2_with fail
              obtain ⟨g1, g2, g3⟩ := set9 l9 (.int .i64 0) (.int .i64 0) (.int .i64 0) (.slice none 0 0) (.int .i64 0) (.int .i64 0) (.int .i64 0) (.int .i64 0) (.int .i64 0) _ rfl
              obtain ⟨i0, i1, i2, i3, i4, i5, i6, i7, i8⟩ := cells9 g1
              refine bodyPost_ret (v := .tuple #[.agg #[.int .i64 0, .int .i64 0, .int .i64 0, .slice none 0 0, .int .i64 0, .int .i64 0, .int .i64 0, .int .i64 0, .int .i64 0], .bool false]) (by simp [results, Try.f15, go_sem, i0, i1, i2, i3, i4, i5, i6, i7, i8]) rfl ?_
              rw [HR2.out]
              exact ⟨B9.trans (upd_below g2 (by simp) B9.size), rfl⟩
          · have HR2 := Lib.hid (show Mp.msgDecR b = none by rw [HR.out, if_neg (fun h => hdn ⟨h.1, h.2.1⟩)])
            have hd : (!sp && t.length == 0) = false := by
              cases sp
              · simpa using hdn
              · rfl
            rw [hd]
            clear hdn hd HR hcs hcb
            go_wp2_with fail
            obtain ⟨g1, g2, g3⟩ := set9 l9 (.int .i64 0) (.int .i64 0) (.int .i64 0) (.slice none 0 0) (.int .i64 0) (.int .i64 0) (.int .i64 0) (.int .i64 0) (.int .i64 0) _ rfl
            obtain ⟨i0, i1, i2, i3, i4, i5, i6, i7, i8⟩ := cells9 g1
            refine bodyPost_ret (v := .tuple #[.agg #[.int .i64 0, .int .i64 0, .int .i64 0, .slice none 0 0, .int .i64 0, .int .i64 0, .int .i64 0, .int .i64 0, .int .i64 0], .bool false]) (by simp [results, Try.f15, go_sem, i0, i1, i2, i3, i4, i5, i6, i7, i8]) rfl ?_
            rw [HR2.out]
            exact ⟨B9.trans (upd_below g2 (by simp) B9.size), rfl⟩
    · obtain ⟨t, sp⟩ := s
      have HX := Lib.hid (show Mp.redgesR N s3 = (es, (t, sp)) by rw [HE.out, show N - k = 0 by omega]; simp [Mp.redgesR])
      have hsb := hs.below Bk
      have hkN : N ≤ k := by omega
      obtain ⟨s9, hs9⟩ : ∃ s9, s9 = (t, sp) := ⟨_, rfl⟩
      have HR := Lib.hid (show Mp.msgDecR b = if s9.2 = false ∧ s9.1.length = 0 ∧ Mp.msgEnc ⟨5, 0, 0, es, wt, .zero⟩ = some b then some ⟨5, 0, 0, es, wt, .zero⟩ else none by
        unfold Mp.msgDecR
        rw [hmo.out, HX.out, hs9])
      rw [← hs9] at qk
      clear hs9 HX hmo
      subst hel
      obtain ⟨w9, hw9⟩ : ∃ W, W = wr := ⟨_, rfl⟩
      subst hw9
      have q9 := qk
      have l9' := lk
      have m9' := mk
      have B9' := Bk
      have sb9' := hsb
      have hfr : ∀ a, Ae = some a → 0 < es.length → w.heap.size ≤ a.block := fun a ha h0 => by
        have h1 := ok.le
        obtain ⟨g0, o0, cur, hA0, _⟩ := ok.row (by omega)
        have := fk g0 (by rw [hA0]; simp [fp]; omega)
        rw [ha] at hA0; injection hA0 with hA0; subst hA0
        exact this
      obtain ⟨y0, y1, y2, y3, y4, y5, y6, y7, y8⟩ := cells9 m9'
      clear qk lk mk Bk hsb
      obtain ⟨r, hr⟩ : ∃ r, r = Mp.msgEnc ⟨5, 0, 0, es, wt, .zero⟩ := ⟨_, rfl⟩
      have HM := refMessage ⟨5, 0, 0, es, wt, .zero⟩ Ae ce w9 (ok.seg)
      rw [← hr] at HM
      have HR := Lib.hid (by have h := HR.out; rw [← hr] at h; exact h : Mp.msgDecR b = if s9.2 = false ∧ s9.1.length = 0 ∧ r = some b then some ⟨5, 0, 0, es, wt, .zero⟩ else none)
      clear hr
      simp only [mv, Mp.Hint.zero] at HM
      have HM := Lib.hid HM
      go_wp2_with fail
      clear y0 y1 y2 y3 y4 y5 y6 y7 y8
      (with_reducible refine HM.out.mono ?_)
      rintro e v1 ⟨bM, hM⟩
      have qv := q9.upd (Upd.of_below bM []) (Keep.of_below bM) (by simp)
      have lv := l9'.below bM l9'.lt
      have mvv := m9'.below bM m9'.lt
      have Bv := B9'.trans (bM.mono B9'.size)
      have sbv := sb9'.below bM
      obtain ⟨t, sp⟩ := s9
      have HD := Lib.hid (refDone qv)
      simp only at HR HD
      have hne : w.heap.size ≠ G := by omega
      clear HM
      cases r with
      | none =>
        obtain rfl := hM
        have HR2 := Lib.hid (show Mp.msgDecR b = none by rw [HR.out, if_neg (by simp)])
        clear HR
        go_wp2_with fail
        (with_reducible refine HD.out.mono ?_)
        rintro e v2 ⟨rfl, nd, hv2⟩
        have l9 := lv.drewN nd
        have B9 : Below w.heap.size w (v1.drewN nd) := (Upd.of_below Bv []).drewN nd |>.to_below
        rw [← hv2] at l9 B9
        clear hv2 HD
        obtain ⟨t0, t1, t2, t3, t4, t5, t6, t7, t8⟩ := cells9 l9
        have fz : ∀ i, v2.frozen? ⟨w.heap.size, i, none⟩ = false := fun i => l9.frozen i
        generalize (!sp && t.length == 0) = dn
        cases dn
        all_goals
          go_wp2_with fail
          obtain ⟨g1, g2, g3⟩ := set9 l9 (.int .i64 0) (.int .i64 0) (.int .i64 0) (.slice none 0 0) (.int .i64 0) (.int .i64 0) (.int .i64 0) (.int .i64 0) (.int .i64 0) _ rfl
          obtain ⟨i0, i1, i2, i3, i4, i5, i6, i7, i8⟩ := cells9 g1
          refine bodyPost_ret (v := .tuple #[.agg #[.int .i64 0, .int .i64 0, .int .i64 0, .slice none 0 0, .int .i64 0, .int .i64 0, .int .i64 0, .int .i64 0, .int .i64 0], .bool false]) (by simp [results, Try.f15, go_sem, i0, i1, i2, i3, i4, i5, i6, i7, i8]) rfl ?_
          rw [HR2.out]
          exact ⟨B9.trans (upd_below g2 (by simp) B9.size), rfl⟩
      | some L =>
        obtain ⟨AL, cL, rfl, oL, fL⟩ := hM
        go_wp2_with fail
        (with_reducible refine HD.out.mono ?_)
        rintro e v2 ⟨rfl, nd, hv2⟩
        have l9 := lv.drewN nd
        have m9 := mvv.drewN nd
        have B9 : Below w.heap.size w (v1.drewN nd) := (Upd.of_below Bv []).drewN nd |>.to_below
        have sb9 : Seg (v1.drewN nd) 5 A (bv b) := sbv
        have oL9 : Seg (v1.drewN nd) 5 AL (bv L) := oL.seg
        have bM9 : Below w9.heap.size w9 (v1.drewN nd) := (Upd.of_below bM []).drewN nd |>.to_below
        rw [← hv2] at l9 m9 B9 sb9 oL9 bM9
        clear hv2 HD
        obtain ⟨t0, t1, t2, t3, t4, t5, t6, t7, t8⟩ := cells9 l9
        obtain ⟨j0, j1, j2, j3, j4, j5, j6, j7, j8⟩ := cells9 m9
        have fz : ∀ i, v2.frozen? ⟨w.heap.size, i, none⟩ = false := fun i => l9.frozen i
        have hcs := run_str L AL cL v2 oL9
        have hcb := run_str b A c v2 sb9
        by_cases hdn : sp = false ∧ t.length = 0
        · have hd : (!sp && t.length == 0) = true := by rw [hdn.1]; simp [hdn.2]
          rw [hd]
          by_cases hLb : L = b
          · have HR2 := Lib.hid (show Mp.msgDecR b = some ⟨5, 0, 0, es, wt, .zero⟩ by rw [HR.out, if_pos ⟨hdn.1, hdn.2, by rw [hLb]⟩])
            have hq : (L == b) = true := by simpa using hLb
            clear hLb hdn hd HR
            go_wp2_with fail
            generalize hv : (!(L == b)) = v
            cases v
            rotate_left
            · rw [hq] at hv; cases hv
            clear hv hq
            go_wp2_with fail
            obtain ⟨g1, g2, g3⟩ := set9 l9 (.int .i64 5) (.int .i64 0) (.int .i64 0) (.slice Ae es.length ce) (.int .i64 wt) (.int .i64 0) (.int .i64 0) (.int .i64 0) (.int .i64 0) _ rfl
            obtain ⟨i0, i1, i2, i3, i4, i5, i6, i7, i8⟩ := cells9 g1
            refine bodyPost_ret (v := .tuple #[.agg #[.int .i64 5, .int .i64 0, .int .i64 0, .slice Ae es.length ce, .int .i64 wt, .int .i64 0, .int .i64 0, .int .i64 0, .int .i64 0], .bool true]) (by simp [results, Try.f15, go_sem, i0, i1, i2, i3, i4, i5, i6, i7, i8]) rfl ?_
            rw [HR2.out]
            refine ⟨B9.trans (upd_below g2 (by simp) B9.size), Ae, ce, rfl, ok.le, (ok.seg.below bM9).keep (g3 _ (by decide)), hfr⟩
          · have HR2 := Lib.hid (show Mp.msgDecR b = none by rw [HR.out, if_neg (fun h => hLb (by simpa using h.2.2))])
            have hq : (L == b) = false := by simpa using hLb
            clear hLb hdn hd HR
            go_wp2_with fail
            generalize hv : (!(L == b)) = v
            cases v
            · rw [hq] at hv; cases hv
            clear hv hq
            go_wp2_with fail
            obtain ⟨g1, g2, g3⟩ := set9 l9 (.int .i64 0) (.int .i64 0) (.int .i64 0) (.slice none 0 0) (.int .i64 0) (.int .i64 0) (.int .i64 0) (.int .i64 0) (.int .i64 0) _ rfl
            obtain ⟨i0, i1, i2, i3, i4, i5, i6, i7, i8⟩ := cells9 g1
            refine bodyPost_ret (v := .tuple #[.agg #[.int .i64 0, .int .i64 0, .int .i64 0, .slice none 0 0, .int .i64 0, .int .i64 0, .int .i64 0, .int .i64 0, .int .i64 0], .bool false]) (by simp [results, Try.f15, go_sem, i0, i1, i2, i3, i4, i5, i6, i7, i8]) rfl ?_
            rw [HR2.out]
            exact ⟨B9.trans (upd_below g2 (by simp) B9.size), rfl⟩
        · have HR2 := Lib.hid (show Mp.msgDecR b = none by rw [HR.out, if_neg (fun h => hdn ⟨h.1, h.2.1⟩)])
          have hd : (!sp && t.length == 0) = false := by
            cases sp
            · simpa using hdn
            · rfl
          rw [hd]
          clear hdn hd HR hcs hcb
          go_wp2_with fail
          obtain ⟨g1, g2, g3⟩ := set9 l9 (.int .i64 0) (.int .i64 0) (.int .i64 0) (.slice none 0 0) (.int .i64 0) (.int .i64 0) (.int .i64 0) (.int .i64 0) (.int .i64 0) _ rfl
          obtain ⟨i0, i1, i2, i3, i4, i5, i6, i7, i8⟩ := cells9 g1
          refine bodyPost_ret (v := .tuple #[.agg #[.int .i64 0, .int .i64 0, .int .i64 0, .slice none 0 0, .int .i64 0, .int .i64 0, .int .i64 0, .int .i64 0, .int .i64 0], .bool false]) (by simp [results, Try.f15, go_sem, i0, i1, i2, i3, i4, i5, i6, i7, i8]) rfl ?_
          rw [HR2.out]
          exact ⟨B9.trans (upd_below g2 (by simp) B9.size), rfl⟩

/-- the document's ReadMessage -/
theorem refReadMessage (A : Option Addr) (b : Mp.Bytes) (c : Nat) (w : World) (hs : Seg w 5 A (bv b)) (hcap : b.length ≤ c) :
    Calls Try.prog 15 #[.slice A b.length c] w (RetRM w (Mp.msgDecR b)) := by
  by_cases k1 : (Mp.rnum 1 (b, false)).1 = 1
  · exact refRM1 A b c w hs hcap k1
  by_cases k2 : (Mp.rnum 1 (b, false)).1 = 2
  · exact refRM2 A b c w hs hcap k2
  by_cases k9 : (Mp.rnum 1 (b, false)).1 = 9
  · exact refRM9 A b c w hs hcap k9
  by_cases k5 : (Mp.rnum 1 (b, false)).1 = 5
  · exact refRM5 A b c w hs hcap k5
  by_cases k7 : (Mp.rnum 1 (b, false)).1 = 7
  · exact refRM7 A b c w hs hcap k7
  exact refRM0 A b c w hs hcap _ rfl k1 k2 k9 k5 k7
end Go.Proofs.Ytemcpldipjbleaa
