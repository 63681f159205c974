/- milepostref1.Message. -/
import Derived.Test.YtemcpldipjbleaaRefRG
import Derived.Test.YtemcpldipjbleaaMsg
namespace Go.Proofs.Ytemcpldipjbleaa
open Go.RowKit
attribute [local go_sem ↓] Go.wp_at_zero Go.wp_at_succ

/-- a message's bytes in memory of their own, or none -/
def RetM (w : World) (r : Option Mp.Bytes) (e : Ending) (w' : World) : Prop :=
  Below w.heap.size w w' ∧ match r with
  | none => e = .returned (.tuple #[.slice none 0 0, .bool false])
  | some l => ∃ A' c', e = .returned (.tuple #[.slice A' l.length c', .bool true]) ∧ OwnS w' 5 1 A' l.length c' (bv l) ∧ ∀ k, k ∈ fp A' c' → w.heap.size ≤ k
theorem nums_one {size x : Int} {s t : Mp.Bytes × Bool} {k : Nat} (h : t = Mp.nums size [x] s) (hk : s.1.length ≤ k) : t.1.length ≤ k + 7 := by
  have := Mp.nums_length size [x] s
  rw [← h] at this
  simp at this
  omega

set_option maxRecDepth 100000 in
set_option maxHeartbeats 1000000 in
theorem refMsg1 (pos dest weight cls edge far left : Int) (edges : List Int) (A : Option Addr) (c : Nat) (w : World) :
    Calls Try.prog 20 #[.agg #[.int .i64 1, .int .i64 pos, .int .i64 dest, .slice A edges.length c, .int .i64 weight, .int .i64 cls, .int .i64 edge, .int .i64 far, .int .i64 left]] w (RetM w (Mp.msgEnc ⟨1, pos, dest, edges, weight, ⟨cls, edge, far, left⟩⟩)) := by
  obtain ⟨s1, h1⟩ : ∃ s, s = Mp.nums 1 [1] ([], false) := ⟨_, rfl⟩
  have a1 := nums_one (k := 0) h1 (by simp)
  obtain ⟨s2, h2⟩ : ∃ s, s = Mp.nums 2 [pos] s1 := ⟨_, rfl⟩
  have a2 := nums_one (k := 7) h2 (by omega)
  obtain ⟨s3, h3⟩ : ∃ s, s = Mp.nums 2 [dest] s2 := ⟨_, rfl⟩
  have a3 := nums_one (k := 14) h3 (by omega)
  have HR := Lib.hid (show Mp.msgEnc ⟨1, pos, dest, edges, weight, ⟨cls, edge, far, left⟩⟩ = Mp.opt s3 by rw [Mp.msgEncR1 _ rfl]; simp only; rw [← h1, ← h2, ← h3])
  have H1 := Lib.hid h1
  have H2 := Lib.hid h2
  have H3 := Lib.hid h3
  clear h1 h2 h3
  have e0 := (Blk.newAt w 44 #[.int .i64 1, .int .i64 pos, .int .i64 dest, .slice A edges.length c, .int .i64 weight, .int .i64 cls, .int .i64 edge, .int .i64 far, .int .i64 left] _ rfl).alloc (.cells #[.slice none 0 0, .bool false] 80)
  have b0 : Below w.heap.size w ((w.alloc (.cells #[.int .i64 1, .int .i64 pos, .int .i64 dest, .slice A edges.length c, .int .i64 weight, .int .i64 cls, .int .i64 edge, .int .i64 far, .int .i64 left] 44)).alloc (.cells #[.slice none 0 0, .bool false] 80)) := ((Below.refl _ w).alloc (Nat.le_refl _) _).alloc (by simp) _
  have v0 : IsV ((w.alloc (.cells #[.int .i64 1, .int .i64 pos, .int .i64 dest, .slice A edges.length c, .int .i64 weight, .int .i64 cls, .int .i64 edge, .int .i64 far, .int .i64 left] 44)).alloc (.cells #[.slice none 0 0, .bool false] 80)) (w.heap.size + 1) (w.heap.size + 1) ([], false) := IsV.newAt _ _ (by simp)
  go_enter Try.func20, Try.ntmps20
  go_wp2_with fail
  (with_reducible refine (refPutAny v0 1 (by omega) (by omega) 1 (by simp)).mono ?_)
  rintro e w1 ⟨rfl, v1, b1'⟩
  rw [← H1.out] at v1
  have e1 := e0.below b1' (by omega)
  have b1 := b0.trans (b1'.mono (by omega))
  obtain ⟨q0, q1, q2, q3, q4, q5, q6, q7, q8⟩ := cells9 e1
  clear v0 b1' e0 b0
  go_wp2_with fail
  clear q0 q1 q2 q3 q4 q5 q6 q7 q8
  (with_reducible refine (refPutAny v1 2 (by omega) (by omega) pos (by omega)).mono ?_)
  rintro e w2 ⟨rfl, v2, b2'⟩
  rw [← H2.out] at v2
  have e2 := e1.below b2' (by omega)
  have b2 := b1.trans (b2'.mono (by omega))
  obtain ⟨q0, q1, q2, q3, q4, q5, q6, q7, q8⟩ := cells9 e2
  clear v1 b2' e1 b1
  go_wp2_with fail
  clear q0 q1 q2 q3 q4 q5 q6 q7 q8
  (with_reducible refine (refPutAny v2 2 (by omega) (by omega) dest (by omega)).mono ?_)
  rintro e w3 ⟨rfl, v3, b3'⟩
  rw [← H3.out] at v3
  have e3 := e2.below b3' (by omega)
  have b3 := b2.trans (b3'.mono (by omega))
  obtain ⟨q0, q1, q2, q3, q4, q5, q6, q7, q8⟩ := cells9 e3
  clear v2 b3' e2 b2
  obtain ⟨L, sp⟩ := s3
  (try simp only at v3)
  (try simp only at HR)
  obtain ⟨hB5, A5, cap5, g5, o5, f5⟩ := v3
  (try simp only at g5)
  (try simp only at o5)
  have p2 : w3.cell? ⟨w.heap.size + 1, 0, none⟩ = some (.slice A5 L.length cap5) := g5.cell 0
  have p3 : w3.cell? ⟨w.heap.size + 1, 1, none⟩ = some (.bool sp) := g5.cell 1
  cases sp
  · go_wp2_with fail
    go_ret2
    rw [HR.out]
    exact ⟨b3, A5, cap5, rfl, o5, fun k hk => by have := f5 k hk; omega⟩
  · go_wp2_with fail
    go_ret2
    rw [HR.out]
    exact ⟨b3, rfl⟩

set_option maxRecDepth 100000 in
set_option maxHeartbeats 1000000 in
theorem refMsg2 (pos dest weight cls edge far left : Int) (edges : List Int) (A : Option Addr) (c : Nat) (w : World) :
    Calls Try.prog 20 #[.agg #[.int .i64 2, .int .i64 pos, .int .i64 dest, .slice A edges.length c, .int .i64 weight, .int .i64 cls, .int .i64 edge, .int .i64 far, .int .i64 left]] w (RetM w (Mp.msgEnc ⟨2, pos, dest, edges, weight, ⟨cls, edge, far, left⟩⟩)) := by
  obtain ⟨s1, h1⟩ : ∃ s, s = Mp.nums 1 [2] ([], false) := ⟨_, rfl⟩
  have a1 := nums_one (k := 0) h1 (by simp)
  obtain ⟨s2, h2⟩ : ∃ s, s = Mp.nums 2 [pos] s1 := ⟨_, rfl⟩
  have a2 := nums_one (k := 7) h2 (by omega)
  have HR := Lib.hid (show Mp.msgEnc ⟨2, pos, dest, edges, weight, ⟨cls, edge, far, left⟩⟩ = Mp.opt s2 by rw [Mp.msgEncR2 _ rfl]; simp only; rw [← h1, ← h2])
  have H1 := Lib.hid h1
  have H2 := Lib.hid h2
  clear h1 h2
  have e0 := (Blk.newAt w 44 #[.int .i64 2, .int .i64 pos, .int .i64 dest, .slice A edges.length c, .int .i64 weight, .int .i64 cls, .int .i64 edge, .int .i64 far, .int .i64 left] _ rfl).alloc (.cells #[.slice none 0 0, .bool false] 80)
  have b0 : Below w.heap.size w ((w.alloc (.cells #[.int .i64 2, .int .i64 pos, .int .i64 dest, .slice A edges.length c, .int .i64 weight, .int .i64 cls, .int .i64 edge, .int .i64 far, .int .i64 left] 44)).alloc (.cells #[.slice none 0 0, .bool false] 80)) := ((Below.refl _ w).alloc (Nat.le_refl _) _).alloc (by simp) _
  have v0 : IsV ((w.alloc (.cells #[.int .i64 2, .int .i64 pos, .int .i64 dest, .slice A edges.length c, .int .i64 weight, .int .i64 cls, .int .i64 edge, .int .i64 far, .int .i64 left] 44)).alloc (.cells #[.slice none 0 0, .bool false] 80)) (w.heap.size + 1) (w.heap.size + 1) ([], false) := IsV.newAt _ _ (by simp)
  go_enter Try.func20, Try.ntmps20
  go_wp2_with fail
  (with_reducible refine (refPutAny v0 1 (by omega) (by omega) 2 (by simp)).mono ?_)
  rintro e w1 ⟨rfl, v1, b1'⟩
  rw [← H1.out] at v1
  have e1 := e0.below b1' (by omega)
  have b1 := b0.trans (b1'.mono (by omega))
  obtain ⟨q0, q1, q2, q3, q4, q5, q6, q7, q8⟩ := cells9 e1
  clear v0 b1' e0 b0
  go_wp2_with fail
  clear q0 q1 q2 q3 q4 q5 q6 q7 q8
  (with_reducible refine (refPutAny v1 2 (by omega) (by omega) pos (by omega)).mono ?_)
  rintro e w2 ⟨rfl, v2, b2'⟩
  rw [← H2.out] at v2
  have e2 := e1.below b2' (by omega)
  have b2 := b1.trans (b2'.mono (by omega))
  obtain ⟨q0, q1, q2, q3, q4, q5, q6, q7, q8⟩ := cells9 e2
  clear v1 b2' e1 b1
  obtain ⟨L, sp⟩ := s2
  (try simp only at v2)
  (try simp only at HR)
  obtain ⟨hB5, A5, cap5, g5, o5, f5⟩ := v2
  (try simp only at g5)
  (try simp only at o5)
  have p2 : w2.cell? ⟨w.heap.size + 1, 0, none⟩ = some (.slice A5 L.length cap5) := g5.cell 0
  have p3 : w2.cell? ⟨w.heap.size + 1, 1, none⟩ = some (.bool sp) := g5.cell 1
  cases sp
  · go_wp2_with fail
    go_ret2
    rw [HR.out]
    exact ⟨b2, A5, cap5, rfl, o5, fun k hk => by have := f5 k hk; omega⟩
  · go_wp2_with fail
    go_ret2
    rw [HR.out]
    exact ⟨b2, rfl⟩

set_option maxRecDepth 100000 in
set_option maxHeartbeats 1000000 in
theorem refMsg9 (pos dest weight cls edge far left : Int) (edges : List Int) (A : Option Addr) (c : Nat) (w : World) :
    Calls Try.prog 20 #[.agg #[.int .i64 9, .int .i64 pos, .int .i64 dest, .slice A edges.length c, .int .i64 weight, .int .i64 cls, .int .i64 edge, .int .i64 far, .int .i64 left]] w (RetM w (Mp.msgEnc ⟨9, pos, dest, edges, weight, ⟨cls, edge, far, left⟩⟩)) := by
  obtain ⟨s1, h1⟩ : ∃ s, s = Mp.nums 1 [9] ([], false) := ⟨_, rfl⟩
  have a1 := nums_one (k := 0) h1 (by simp)
  obtain ⟨s2, h2⟩ : ∃ s, s = Mp.nums 2 [pos] s1 := ⟨_, rfl⟩
  have a2 := nums_one (k := 7) h2 (by omega)
  have HR := Lib.hid (show Mp.msgEnc ⟨9, pos, dest, edges, weight, ⟨cls, edge, far, left⟩⟩ = Mp.opt s2 by rw [Mp.msgEncR9 _ rfl]; simp only; rw [← h1, ← h2])
  have H1 := Lib.hid h1
  have H2 := Lib.hid h2
  clear h1 h2
  have e0 := (Blk.newAt w 44 #[.int .i64 9, .int .i64 pos, .int .i64 dest, .slice A edges.length c, .int .i64 weight, .int .i64 cls, .int .i64 edge, .int .i64 far, .int .i64 left] _ rfl).alloc (.cells #[.slice none 0 0, .bool false] 80)
  have b0 : Below w.heap.size w ((w.alloc (.cells #[.int .i64 9, .int .i64 pos, .int .i64 dest, .slice A edges.length c, .int .i64 weight, .int .i64 cls, .int .i64 edge, .int .i64 far, .int .i64 left] 44)).alloc (.cells #[.slice none 0 0, .bool false] 80)) := ((Below.refl _ w).alloc (Nat.le_refl _) _).alloc (by simp) _
  have v0 : IsV ((w.alloc (.cells #[.int .i64 9, .int .i64 pos, .int .i64 dest, .slice A edges.length c, .int .i64 weight, .int .i64 cls, .int .i64 edge, .int .i64 far, .int .i64 left] 44)).alloc (.cells #[.slice none 0 0, .bool false] 80)) (w.heap.size + 1) (w.heap.size + 1) ([], false) := IsV.newAt _ _ (by simp)
  go_enter Try.func20, Try.ntmps20
  go_wp2_with fail
  (with_reducible refine (refPutAny v0 1 (by omega) (by omega) 9 (by simp)).mono ?_)
  rintro e w1 ⟨rfl, v1, b1'⟩
  rw [← H1.out] at v1
  have e1 := e0.below b1' (by omega)
  have b1 := b0.trans (b1'.mono (by omega))
  obtain ⟨q0, q1, q2, q3, q4, q5, q6, q7, q8⟩ := cells9 e1
  clear v0 b1' e0 b0
  go_wp2_with fail
  clear q0 q1 q2 q3 q4 q5 q6 q7 q8
  (with_reducible refine (refPutAny v1 2 (by omega) (by omega) pos (by omega)).mono ?_)
  rintro e w2 ⟨rfl, v2, b2'⟩
  rw [← H2.out] at v2
  have e2 := e1.below b2' (by omega)
  have b2 := b1.trans (b2'.mono (by omega))
  obtain ⟨q0, q1, q2, q3, q4, q5, q6, q7, q8⟩ := cells9 e2
  clear v1 b2' e1 b1
  obtain ⟨L, sp⟩ := s2
  (try simp only at v2)
  (try simp only at HR)
  obtain ⟨hB5, A5, cap5, g5, o5, f5⟩ := v2
  (try simp only at g5)
  (try simp only at o5)
  have p2 : w2.cell? ⟨w.heap.size + 1, 0, none⟩ = some (.slice A5 L.length cap5) := g5.cell 0
  have p3 : w2.cell? ⟨w.heap.size + 1, 1, none⟩ = some (.bool sp) := g5.cell 1
  cases sp
  · go_wp2_with fail
    go_ret2
    rw [HR.out]
    exact ⟨b2, A5, cap5, rfl, o5, fun k hk => by have := f5 k hk; omega⟩
  · go_wp2_with fail
    go_ret2
    rw [HR.out]
    exact ⟨b2, rfl⟩

set_option maxRecDepth 100000 in
set_option maxHeartbeats 1000000 in
theorem refMsg3 (pos dest weight cls edge far left : Int) (edges : List Int) (A : Option Addr) (c : Nat) (w : World) :
    Calls Try.prog 20 #[.agg #[.int .i64 3, .int .i64 pos, .int .i64 dest, .slice A edges.length c, .int .i64 weight, .int .i64 cls, .int .i64 edge, .int .i64 far, .int .i64 left]] w (RetM w (Mp.msgEnc ⟨3, pos, dest, edges, weight, ⟨cls, edge, far, left⟩⟩)) := by
  obtain ⟨s1, h1⟩ : ∃ s, s = Mp.nums 1 [3] ([], false) := ⟨_, rfl⟩
  have a1 := nums_one (k := 0) h1 (by simp)
  have HR := Lib.hid (show Mp.msgEnc ⟨3, pos, dest, edges, weight, ⟨cls, edge, far, left⟩⟩ = Mp.opt s1 by rw [Mp.msgEncR3 _ (.inl rfl)]; simp only; rw [← h1])
  have H1 := Lib.hid h1
  clear h1
  have e0 := (Blk.newAt w 44 #[.int .i64 3, .int .i64 pos, .int .i64 dest, .slice A edges.length c, .int .i64 weight, .int .i64 cls, .int .i64 edge, .int .i64 far, .int .i64 left] _ rfl).alloc (.cells #[.slice none 0 0, .bool false] 80)
  have b0 : Below w.heap.size w ((w.alloc (.cells #[.int .i64 3, .int .i64 pos, .int .i64 dest, .slice A edges.length c, .int .i64 weight, .int .i64 cls, .int .i64 edge, .int .i64 far, .int .i64 left] 44)).alloc (.cells #[.slice none 0 0, .bool false] 80)) := ((Below.refl _ w).alloc (Nat.le_refl _) _).alloc (by simp) _
  have v0 : IsV ((w.alloc (.cells #[.int .i64 3, .int .i64 pos, .int .i64 dest, .slice A edges.length c, .int .i64 weight, .int .i64 cls, .int .i64 edge, .int .i64 far, .int .i64 left] 44)).alloc (.cells #[.slice none 0 0, .bool false] 80)) (w.heap.size + 1) (w.heap.size + 1) ([], false) := IsV.newAt _ _ (by simp)
  go_enter Try.func20, Try.ntmps20
  go_wp2_with fail
  (with_reducible refine (refPutAny v0 1 (by omega) (by omega) 3 (by simp)).mono ?_)
  rintro e w1 ⟨rfl, v1, b1'⟩
  rw [← H1.out] at v1
  have e1 := e0.below b1' (by omega)
  have b1 := b0.trans (b1'.mono (by omega))
  obtain ⟨q0, q1, q2, q3, q4, q5, q6, q7, q8⟩ := cells9 e1
  clear v0 b1' e0 b0
  obtain ⟨L, sp⟩ := s1
  (try simp only at v1)
  (try simp only at HR)
  obtain ⟨hB5, A5, cap5, g5, o5, f5⟩ := v1
  (try simp only at g5)
  (try simp only at o5)
  have p2 : w1.cell? ⟨w.heap.size + 1, 0, none⟩ = some (.slice A5 L.length cap5) := g5.cell 0
  have p3 : w1.cell? ⟨w.heap.size + 1, 1, none⟩ = some (.bool sp) := g5.cell 1
  cases sp
  · go_wp2_with fail
    go_ret2
    rw [HR.out]
    exact ⟨b1, A5, cap5, rfl, o5, fun k hk => by have := f5 k hk; omega⟩
  · go_wp2_with fail
    go_ret2
    rw [HR.out]
    exact ⟨b1, rfl⟩

set_option maxRecDepth 100000 in
set_option maxHeartbeats 1000000 in
theorem refMsg4 (pos dest weight cls edge far left : Int) (edges : List Int) (A : Option Addr) (c : Nat) (w : World) :
    Calls Try.prog 20 #[.agg #[.int .i64 4, .int .i64 pos, .int .i64 dest, .slice A edges.length c, .int .i64 weight, .int .i64 cls, .int .i64 edge, .int .i64 far, .int .i64 left]] w (RetM w (Mp.msgEnc ⟨4, pos, dest, edges, weight, ⟨cls, edge, far, left⟩⟩)) := by
  obtain ⟨s1, h1⟩ : ∃ s, s = Mp.nums 1 [4] ([], false) := ⟨_, rfl⟩
  have a1 := nums_one (k := 0) h1 (by simp)
  have HR := Lib.hid (show Mp.msgEnc ⟨4, pos, dest, edges, weight, ⟨cls, edge, far, left⟩⟩ = Mp.opt s1 by rw [Mp.msgEncR3 _ (.inr (.inl rfl))]; simp only; rw [← h1])
  have H1 := Lib.hid h1
  clear h1
  have e0 := (Blk.newAt w 44 #[.int .i64 4, .int .i64 pos, .int .i64 dest, .slice A edges.length c, .int .i64 weight, .int .i64 cls, .int .i64 edge, .int .i64 far, .int .i64 left] _ rfl).alloc (.cells #[.slice none 0 0, .bool false] 80)
  have b0 : Below w.heap.size w ((w.alloc (.cells #[.int .i64 4, .int .i64 pos, .int .i64 dest, .slice A edges.length c, .int .i64 weight, .int .i64 cls, .int .i64 edge, .int .i64 far, .int .i64 left] 44)).alloc (.cells #[.slice none 0 0, .bool false] 80)) := ((Below.refl _ w).alloc (Nat.le_refl _) _).alloc (by simp) _
  have v0 : IsV ((w.alloc (.cells #[.int .i64 4, .int .i64 pos, .int .i64 dest, .slice A edges.length c, .int .i64 weight, .int .i64 cls, .int .i64 edge, .int .i64 far, .int .i64 left] 44)).alloc (.cells #[.slice none 0 0, .bool false] 80)) (w.heap.size + 1) (w.heap.size + 1) ([], false) := IsV.newAt _ _ (by simp)
  go_enter Try.func20, Try.ntmps20
  go_wp2_with fail
  (with_reducible refine (refPutAny v0 1 (by omega) (by omega) 4 (by simp)).mono ?_)
  rintro e w1 ⟨rfl, v1, b1'⟩
  rw [← H1.out] at v1
  have e1 := e0.below b1' (by omega)
  have b1 := b0.trans (b1'.mono (by omega))
  obtain ⟨q0, q1, q2, q3, q4, q5, q6, q7, q8⟩ := cells9 e1
  clear v0 b1' e0 b0
  obtain ⟨L, sp⟩ := s1
  (try simp only at v1)
  (try simp only at HR)
  obtain ⟨hB5, A5, cap5, g5, o5, f5⟩ := v1
  (try simp only at g5)
  (try simp only at o5)
  have p2 : w1.cell? ⟨w.heap.size + 1, 0, none⟩ = some (.slice A5 L.length cap5) := g5.cell 0
  have p3 : w1.cell? ⟨w.heap.size + 1, 1, none⟩ = some (.bool sp) := g5.cell 1
  cases sp
  · go_wp2_with fail
    go_ret2
    rw [HR.out]
    exact ⟨b1, A5, cap5, rfl, o5, fun k hk => by have := f5 k hk; omega⟩
  · go_wp2_with fail
    go_ret2
    rw [HR.out]
    exact ⟨b1, rfl⟩

set_option maxRecDepth 100000 in
set_option maxHeartbeats 1000000 in
theorem refMsg6 (pos dest weight cls edge far left : Int) (edges : List Int) (A : Option Addr) (c : Nat) (w : World) :
    Calls Try.prog 20 #[.agg #[.int .i64 6, .int .i64 pos, .int .i64 dest, .slice A edges.length c, .int .i64 weight, .int .i64 cls, .int .i64 edge, .int .i64 far, .int .i64 left]] w (RetM w (Mp.msgEnc ⟨6, pos, dest, edges, weight, ⟨cls, edge, far, left⟩⟩)) := by
  obtain ⟨s1, h1⟩ : ∃ s, s = Mp.nums 1 [6] ([], false) := ⟨_, rfl⟩
  have a1 := nums_one (k := 0) h1 (by simp)
  have HR := Lib.hid (show Mp.msgEnc ⟨6, pos, dest, edges, weight, ⟨cls, edge, far, left⟩⟩ = Mp.opt s1 by rw [Mp.msgEncR3 _ (.inr (.inr (.inl rfl)))]; simp only; rw [← h1])
  have H1 := Lib.hid h1
  clear h1
  have e0 := (Blk.newAt w 44 #[.int .i64 6, .int .i64 pos, .int .i64 dest, .slice A edges.length c, .int .i64 weight, .int .i64 cls, .int .i64 edge, .int .i64 far, .int .i64 left] _ rfl).alloc (.cells #[.slice none 0 0, .bool false] 80)
  have b0 : Below w.heap.size w ((w.alloc (.cells #[.int .i64 6, .int .i64 pos, .int .i64 dest, .slice A edges.length c, .int .i64 weight, .int .i64 cls, .int .i64 edge, .int .i64 far, .int .i64 left] 44)).alloc (.cells #[.slice none 0 0, .bool false] 80)) := ((Below.refl _ w).alloc (Nat.le_refl _) _).alloc (by simp) _
  have v0 : IsV ((w.alloc (.cells #[.int .i64 6, .int .i64 pos, .int .i64 dest, .slice A edges.length c, .int .i64 weight, .int .i64 cls, .int .i64 edge, .int .i64 far, .int .i64 left] 44)).alloc (.cells #[.slice none 0 0, .bool false] 80)) (w.heap.size + 1) (w.heap.size + 1) ([], false) := IsV.newAt _ _ (by simp)
  go_enter Try.func20, Try.ntmps20
  go_wp2_with fail
  (with_reducible refine (refPutAny v0 1 (by omega) (by omega) 6 (by simp)).mono ?_)
  rintro e w1 ⟨rfl, v1, b1'⟩
  rw [← H1.out] at v1
  have e1 := e0.below b1' (by omega)
  have b1 := b0.trans (b1'.mono (by omega))
  obtain ⟨q0, q1, q2, q3, q4, q5, q6, q7, q8⟩ := cells9 e1
  clear v0 b1' e0 b0
  obtain ⟨L, sp⟩ := s1
  (try simp only at v1)
  (try simp only at HR)
  obtain ⟨hB5, A5, cap5, g5, o5, f5⟩ := v1
  (try simp only at g5)
  (try simp only at o5)
  have p2 : w1.cell? ⟨w.heap.size + 1, 0, none⟩ = some (.slice A5 L.length cap5) := g5.cell 0
  have p3 : w1.cell? ⟨w.heap.size + 1, 1, none⟩ = some (.bool sp) := g5.cell 1
  cases sp
  · go_wp2_with fail
    go_ret2
    rw [HR.out]
    exact ⟨b1, A5, cap5, rfl, o5, fun k hk => by have := f5 k hk; omega⟩
  · go_wp2_with fail
    go_ret2
    rw [HR.out]
    exact ⟨b1, rfl⟩

set_option maxRecDepth 100000 in
set_option maxHeartbeats 1000000 in
theorem refMsg8 (pos dest weight cls edge far left : Int) (edges : List Int) (A : Option Addr) (c : Nat) (w : World) :
    Calls Try.prog 20 #[.agg #[.int .i64 8, .int .i64 pos, .int .i64 dest, .slice A edges.length c, .int .i64 weight, .int .i64 cls, .int .i64 edge, .int .i64 far, .int .i64 left]] w (RetM w (Mp.msgEnc ⟨8, pos, dest, edges, weight, ⟨cls, edge, far, left⟩⟩)) := by
  obtain ⟨s1, h1⟩ : ∃ s, s = Mp.nums 1 [8] ([], false) := ⟨_, rfl⟩
  have a1 := nums_one (k := 0) h1 (by simp)
  have HR := Lib.hid (show Mp.msgEnc ⟨8, pos, dest, edges, weight, ⟨cls, edge, far, left⟩⟩ = Mp.opt s1 by rw [Mp.msgEncR3 _ (.inr (.inr (.inr rfl)))]; simp only; rw [← h1])
  have H1 := Lib.hid h1
  clear h1
  have e0 := (Blk.newAt w 44 #[.int .i64 8, .int .i64 pos, .int .i64 dest, .slice A edges.length c, .int .i64 weight, .int .i64 cls, .int .i64 edge, .int .i64 far, .int .i64 left] _ rfl).alloc (.cells #[.slice none 0 0, .bool false] 80)
  have b0 : Below w.heap.size w ((w.alloc (.cells #[.int .i64 8, .int .i64 pos, .int .i64 dest, .slice A edges.length c, .int .i64 weight, .int .i64 cls, .int .i64 edge, .int .i64 far, .int .i64 left] 44)).alloc (.cells #[.slice none 0 0, .bool false] 80)) := ((Below.refl _ w).alloc (Nat.le_refl _) _).alloc (by simp) _
  have v0 : IsV ((w.alloc (.cells #[.int .i64 8, .int .i64 pos, .int .i64 dest, .slice A edges.length c, .int .i64 weight, .int .i64 cls, .int .i64 edge, .int .i64 far, .int .i64 left] 44)).alloc (.cells #[.slice none 0 0, .bool false] 80)) (w.heap.size + 1) (w.heap.size + 1) ([], false) := IsV.newAt _ _ (by simp)
  go_enter Try.func20, Try.ntmps20
  go_wp2_with fail
  (with_reducible refine (refPutAny v0 1 (by omega) (by omega) 8 (by simp)).mono ?_)
  rintro e w1 ⟨rfl, v1, b1'⟩
  rw [← H1.out] at v1
  have e1 := e0.below b1' (by omega)
  have b1 := b0.trans (b1'.mono (by omega))
  obtain ⟨q0, q1, q2, q3, q4, q5, q6, q7, q8⟩ := cells9 e1
  clear v0 b1' e0 b0
  obtain ⟨L, sp⟩ := s1
  (try simp only at v1)
  (try simp only at HR)
  obtain ⟨hB5, A5, cap5, g5, o5, f5⟩ := v1
  (try simp only at g5)
  (try simp only at o5)
  have p2 : w1.cell? ⟨w.heap.size + 1, 0, none⟩ = some (.slice A5 L.length cap5) := g5.cell 0
  have p3 : w1.cell? ⟨w.heap.size + 1, 1, none⟩ = some (.bool sp) := g5.cell 1
  cases sp
  · go_wp2_with fail
    go_ret2
    rw [HR.out]
    exact ⟨b1, A5, cap5, rfl, o5, fun k hk => by have := f5 k hk; omega⟩
  · go_wp2_with fail
    go_ret2
    rw [HR.out]
    exact ⟨b1, rfl⟩

set_option maxRecDepth 100000 in
set_option maxHeartbeats 1000000 in
theorem refMsg7 (pos dest weight cls edge far left : Int) (edges : List Int) (A : Option Addr) (c : Nat) (w : World) (h0 : -1 ≤ edge) (h1' : edge ≤ 65534) :
    Calls Try.prog 20 #[.agg #[.int .i64 7, .int .i64 pos, .int .i64 dest, .slice A edges.length c, .int .i64 weight, .int .i64 cls, .int .i64 edge, .int .i64 far, .int .i64 left]] w (RetM w (Mp.msgEnc ⟨7, pos, dest, edges, weight, ⟨cls, edge, far, left⟩⟩)) := by
  obtain ⟨s1, h1⟩ : ∃ s, s = Mp.nums 1 [7] ([], false) := ⟨_, rfl⟩
  have a1 := nums_one (k := 0) h1 (by simp)
  obtain ⟨s2, h2⟩ : ∃ s, s = Mp.nums 1 [cls] s1 := ⟨_, rfl⟩
  have a2 := nums_one (k := 7) h2 (by omega)
  obtain ⟨s3, h3⟩ : ∃ s, s = Mp.nums 2 [edge + 1] s2 := ⟨_, rfl⟩
  have a3 := nums_one (k := 14) h3 (by omega)
  obtain ⟨s4, h4⟩ : ∃ s, s = Mp.nums 5 [far] s3 := ⟨_, rfl⟩
  have a4 := nums_one (k := 21) h4 (by omega)
  obtain ⟨s5, h5⟩ : ∃ s, s = Mp.nums 5 [left] s4 := ⟨_, rfl⟩
  have a5 := nums_one (k := 28) h5 (by omega)
  have HR := Lib.hid (show Mp.msgEnc ⟨7, pos, dest, edges, weight, ⟨cls, edge, far, left⟩⟩ = Mp.opt s5 by rw [Mp.msgEncR7 _ rfl]; simp only; rw [← h1, ← h2, ← h3, ← h4, ← h5])
  have hw1 : wrap64 (edge + 1) = edge + 1 := IntWalk.wrap64_in _ ⟨by omega, by omega⟩
  have hw2 : IntKind.i64.wrap (edge + 1) = edge + 1 := IntWalk.i64_in _ (by omega)
  have d1 : decide (edge < -1) = false := by simp; omega
  have d2 : decide (65534 < edge) = false := by simp; omega
  have H1 := Lib.hid h1
  have H2 := Lib.hid h2
  have H3 := Lib.hid h3
  have H4 := Lib.hid h4
  have H5 := Lib.hid h5
  clear h1 h2 h3 h4 h5
  have e0 := (Blk.newAt w 44 #[.int .i64 7, .int .i64 pos, .int .i64 dest, .slice A edges.length c, .int .i64 weight, .int .i64 cls, .int .i64 edge, .int .i64 far, .int .i64 left] _ rfl).alloc (.cells #[.slice none 0 0, .bool false] 80)
  have b0 : Below w.heap.size w ((w.alloc (.cells #[.int .i64 7, .int .i64 pos, .int .i64 dest, .slice A edges.length c, .int .i64 weight, .int .i64 cls, .int .i64 edge, .int .i64 far, .int .i64 left] 44)).alloc (.cells #[.slice none 0 0, .bool false] 80)) := ((Below.refl _ w).alloc (Nat.le_refl _) _).alloc (by simp) _
  have v0 : IsV ((w.alloc (.cells #[.int .i64 7, .int .i64 pos, .int .i64 dest, .slice A edges.length c, .int .i64 weight, .int .i64 cls, .int .i64 edge, .int .i64 far, .int .i64 left] 44)).alloc (.cells #[.slice none 0 0, .bool false] 80)) (w.heap.size + 1) (w.heap.size + 1) ([], false) := IsV.newAt _ _ (by simp)
  go_enter Try.func20, Try.ntmps20
  go_wp2_with fail
  (with_reducible refine (refPutAny v0 1 (by omega) (by omega) 7 (by simp)).mono ?_)
  rintro e w1 ⟨rfl, v1, b1'⟩
  rw [← H1.out] at v1
  have e1 := e0.below b1' (by omega)
  have b1 := b0.trans (b1'.mono (by omega))
  obtain ⟨q0, q1, q2, q3, q4, q5, q6, q7, q8⟩ := cells9 e1
  clear v0 b1' e0 b0
  go_wp2_with fail
  clear q0 q1 q2 q3 q4 q5 q6 q7 q8
  (with_reducible refine (refPutAny v1 1 (by omega) (by omega) cls (by omega)).mono ?_)
  rintro e w2 ⟨rfl, v2, b2'⟩
  rw [← H2.out] at v2
  have e2 := e1.below b2' (by omega)
  have b2 := b1.trans (b2'.mono (by omega))
  obtain ⟨q0, q1, q2, q3, q4, q5, q6, q7, q8⟩ := cells9 e2
  clear v1 b2' e1 b1
  go_wp2_with fail
  clear q0 q1 q2 q3 q4 q5 q6 q7 q8
  (with_reducible refine (refPutAny v2 2 (by omega) (by omega) (edge + 1) (by omega)).mono ?_)
  rintro e w3 ⟨rfl, v3, b3'⟩
  rw [← H3.out] at v3
  have e3 := e2.below b3' (by omega)
  have b3 := b2.trans (b3'.mono (by omega))
  obtain ⟨q0, q1, q2, q3, q4, q5, q6, q7, q8⟩ := cells9 e3
  clear v2 b3' e2 b2
  go_wp2_with fail
  clear q0 q1 q2 q3 q4 q5 q6 q7 q8
  (with_reducible refine (refPutAny v3 5 (by omega) (by omega) far (by omega)).mono ?_)
  rintro e w4 ⟨rfl, v4, b4'⟩
  rw [← H4.out] at v4
  have e4 := e3.below b4' (by omega)
  have b4 := b3.trans (b4'.mono (by omega))
  obtain ⟨q0, q1, q2, q3, q4, q5, q6, q7, q8⟩ := cells9 e4
  clear v3 b4' e3 b3
  go_wp2_with fail
  clear q0 q1 q2 q3 q4 q5 q6 q7 q8
  (with_reducible refine (refPutAny v4 5 (by omega) (by omega) left (by omega)).mono ?_)
  rintro e w5 ⟨rfl, v5, b5'⟩
  rw [← H5.out] at v5
  have e5 := e4.below b5' (by omega)
  have b5 := b4.trans (b5'.mono (by omega))
  obtain ⟨q0, q1, q2, q3, q4, q5, q6, q7, q8⟩ := cells9 e5
  clear v4 b5' e4 b4
  obtain ⟨L, sp⟩ := s5
  (try simp only at v5)
  (try simp only at HR)
  obtain ⟨hB5, A5, cap5, g5, o5, f5⟩ := v5
  (try simp only at g5)
  (try simp only at o5)
  have p2 : w5.cell? ⟨w.heap.size + 1, 0, none⟩ = some (.slice A5 L.length cap5) := g5.cell 0
  have p3 : w5.cell? ⟨w.heap.size + 1, 1, none⟩ = some (.bool sp) := g5.cell 1
  cases sp
  · go_wp2_with fail
    go_ret2
    rw [HR.out]
    exact ⟨b5, A5, cap5, rfl, o5, fun k hk => by have := f5 k hk; omega⟩
  · go_wp2_with fail
    go_ret2
    rw [HR.out]
    exact ⟨b5, rfl⟩

set_option maxRecDepth 100000 in
set_option maxHeartbeats 1000000 in
theorem refMsg7x (pos dest weight cls edge far left : Int) (edges : List Int) (A : Option Addr) (c : Nat) (w : World) (h0 : edge < -1 ∨ 65534 < edge) :
    Calls Try.prog 20 #[.agg #[.int .i64 7, .int .i64 pos, .int .i64 dest, .slice A edges.length c, .int .i64 weight, .int .i64 cls, .int .i64 edge, .int .i64 far, .int .i64 left]] w (RetM w (Mp.msgEnc ⟨7, pos, dest, edges, weight, ⟨cls, edge, far, left⟩⟩)) := by
  have HR2 := Lib.hid (Mp.msgEncR7x ⟨7, pos, dest, edges, weight, ⟨cls, edge, far, left⟩⟩ rfl h0)
  rw [HR2.out]
  obtain ⟨s1, h1⟩ : ∃ s, s = Mp.nums 1 [7] ([], false) := ⟨_, rfl⟩
  have a1 := nums_one (k := 0) h1 (by simp)
  obtain ⟨s2, h2⟩ : ∃ s, s = Mp.nums 1 [cls] s1 := ⟨_, rfl⟩
  have a2 := nums_one (k := 7) h2 (by omega)
  have H1 := Lib.hid h1
  have H2 := Lib.hid h2
  clear h1 h2
  have e0 := (Blk.newAt w 44 #[.int .i64 7, .int .i64 pos, .int .i64 dest, .slice A edges.length c, .int .i64 weight, .int .i64 cls, .int .i64 edge, .int .i64 far, .int .i64 left] _ rfl).alloc (.cells #[.slice none 0 0, .bool false] 80)
  have b0 : Below w.heap.size w ((w.alloc (.cells #[.int .i64 7, .int .i64 pos, .int .i64 dest, .slice A edges.length c, .int .i64 weight, .int .i64 cls, .int .i64 edge, .int .i64 far, .int .i64 left] 44)).alloc (.cells #[.slice none 0 0, .bool false] 80)) := ((Below.refl _ w).alloc (Nat.le_refl _) _).alloc (by simp) _
  have v0 : IsV ((w.alloc (.cells #[.int .i64 7, .int .i64 pos, .int .i64 dest, .slice A edges.length c, .int .i64 weight, .int .i64 cls, .int .i64 edge, .int .i64 far, .int .i64 left] 44)).alloc (.cells #[.slice none 0 0, .bool false] 80)) (w.heap.size + 1) (w.heap.size + 1) ([], false) := IsV.newAt _ _ (by simp)
  go_enter Try.func20, Try.ntmps20
  go_wp2_with fail
  (with_reducible refine (refPutAny v0 1 (by omega) (by omega) 7 (by simp)).mono ?_)
  rintro e w1 ⟨rfl, v1, b1'⟩
  rw [← H1.out] at v1
  have e1 := e0.below b1' (by omega)
  have b1 := b0.trans (b1'.mono (by omega))
  obtain ⟨q0, q1, q2, q3, q4, q5, q6, q7, q8⟩ := cells9 e1
  clear v0 b1' e0 b0
  go_wp2_with fail
  clear q0 q1 q2 q3 q4 q5 q6 q7 q8
  (with_reducible refine (refPutAny v1 1 (by omega) (by omega) cls (by omega)).mono ?_)
  rintro e w2 ⟨rfl, v2, b2'⟩
  rw [← H2.out] at v2
  have e2 := e1.below b2' (by omega)
  have b2 := b1.trans (b2'.mono (by omega))
  obtain ⟨q0, q1, q2, q3, q4, q5, q6, q7, q8⟩ := cells9 e2
  clear v1 b2' e1 b1
  by_cases hlt : edge < -1
  · have d1 : decide (edge < -1) = true := by simpa using hlt
    clear h0 hlt
    go_wp2_with fail
    go_ret2
    exact ⟨b2, rfl⟩
  · have d1 : decide (edge < -1) = false := by simpa using hlt
    have d2 : decide (65534 < edge) = true := by simp; omega
    clear h0 hlt
    go_wp2_with fail
    go_ret2
    exact ⟨b2, rfl⟩

set_option maxRecDepth 100000 in
set_option maxHeartbeats 1000000 in
theorem refMsg5x (pos dest weight cls edge far left : Int) (edges : List Int) (A : Option Addr) (c : Nat) (w : World) (h0 : 512 < edges.length) :
    Calls Try.prog 20 #[.agg #[.int .i64 5, .int .i64 pos, .int .i64 dest, .slice A edges.length c, .int .i64 weight, .int .i64 cls, .int .i64 edge, .int .i64 far, .int .i64 left]] w (RetM w (Mp.msgEnc ⟨5, pos, dest, edges, weight, ⟨cls, edge, far, left⟩⟩)) := by
  have HR2 := Lib.hid (Mp.msgEncR5x ⟨5, pos, dest, edges, weight, ⟨cls, edge, far, left⟩⟩ rfl h0)
  rw [HR2.out]
  have d1 : decide ((512 : Int) < (edges.length : Int)) = true := by simp; omega
  obtain ⟨s1, h1⟩ : ∃ s, s = Mp.nums 1 [5] ([], false) := ⟨_, rfl⟩
  have a1 := nums_one (k := 0) h1 (by simp)
  have H1 := Lib.hid h1
  clear h1
  have e0 := (Blk.newAt w 44 #[.int .i64 5, .int .i64 pos, .int .i64 dest, .slice A edges.length c, .int .i64 weight, .int .i64 cls, .int .i64 edge, .int .i64 far, .int .i64 left] _ rfl).alloc (.cells #[.slice none 0 0, .bool false] 80)
  have b0 : Below w.heap.size w ((w.alloc (.cells #[.int .i64 5, .int .i64 pos, .int .i64 dest, .slice A edges.length c, .int .i64 weight, .int .i64 cls, .int .i64 edge, .int .i64 far, .int .i64 left] 44)).alloc (.cells #[.slice none 0 0, .bool false] 80)) := ((Below.refl _ w).alloc (Nat.le_refl _) _).alloc (by simp) _
  have v0 : IsV ((w.alloc (.cells #[.int .i64 5, .int .i64 pos, .int .i64 dest, .slice A edges.length c, .int .i64 weight, .int .i64 cls, .int .i64 edge, .int .i64 far, .int .i64 left] 44)).alloc (.cells #[.slice none 0 0, .bool false] 80)) (w.heap.size + 1) (w.heap.size + 1) ([], false) := IsV.newAt _ _ (by simp)
  go_enter Try.func20, Try.ntmps20
  go_wp2_with fail
  (with_reducible refine (refPutAny v0 1 (by omega) (by omega) 5 (by simp)).mono ?_)
  rintro e w1 ⟨rfl, v1, b1'⟩
  rw [← H1.out] at v1
  have e1 := e0.below b1' (by omega)
  have b1 := b0.trans (b1'.mono (by omega))
  obtain ⟨q0, q1, q2, q3, q4, q5, q6, q7, q8⟩ := cells9 e1
  clear v0 b1' e0 b0
  go_wp2_with fail
  go_ret2
  exact ⟨b1, rfl⟩

set_option maxRecDepth 100000 in
set_option maxHeartbeats 1000000 in
theorem refMsg5 (pos dest weight cls edge far left : Int) (edges : List Int) (A : Option Addr) (c : Nat) (w : World) (hs : Seg w 3 A (iv edges)) (hl : edges.length ≤ 512) :
    Calls Try.prog 20 #[.agg #[.int .i64 5, .int .i64 pos, .int .i64 dest, .slice A edges.length c, .int .i64 weight, .int .i64 cls, .int .i64 edge, .int .i64 far, .int .i64 left]] w (RetM w (Mp.msgEnc ⟨5, pos, dest, edges, weight, ⟨cls, edge, far, left⟩⟩)) := by
  obtain ⟨s1, h1⟩ : ∃ s, s = Mp.nums 1 [5] ([], false) := ⟨_, rfl⟩
  have a1 := nums_one (k := 0) h1 (by simp)
  obtain ⟨s2, h2⟩ : ∃ s, s = Mp.nums 5 [weight] s1 := ⟨_, rfl⟩
  have a2 := nums_one (k := 7) h2 (by omega)
  obtain ⟨s3, h3⟩ : ∃ s, s = Mp.nums 2 [(edges.length : Int)] s2 := ⟨_, rfl⟩
  have a3 := nums_one (k := 14) h3 (by omega)
  obtain ⟨s4, h4⟩ : ∃ s, s = Mp.puts 2 edges s3 := ⟨_, rfl⟩
  have HR := Lib.hid (show Mp.msgEnc ⟨5, pos, dest, edges, weight, ⟨cls, edge, far, left⟩⟩ = Mp.opt s4 by rw [Mp.msgEncR5 _ rfl hl]; simp only; rw [← h1, ← h2, ← h3, ← h4])
  have H4 := Lib.hid h4
  clear h4
  have d1 : decide ((512 : Int) < (edges.length : Int)) = false := by simp; omega
  have H1 := Lib.hid h1
  have H2 := Lib.hid h2
  have H3 := Lib.hid h3
  clear h1 h2 h3
  have e0 := (Blk.newAt w 44 #[.int .i64 5, .int .i64 pos, .int .i64 dest, .slice A edges.length c, .int .i64 weight, .int .i64 cls, .int .i64 edge, .int .i64 far, .int .i64 left] _ rfl).alloc (.cells #[.slice none 0 0, .bool false] 80)
  have b0 : Below w.heap.size w ((w.alloc (.cells #[.int .i64 5, .int .i64 pos, .int .i64 dest, .slice A edges.length c, .int .i64 weight, .int .i64 cls, .int .i64 edge, .int .i64 far, .int .i64 left] 44)).alloc (.cells #[.slice none 0 0, .bool false] 80)) := ((Below.refl _ w).alloc (Nat.le_refl _) _).alloc (by simp) _
  have v0 : IsV ((w.alloc (.cells #[.int .i64 5, .int .i64 pos, .int .i64 dest, .slice A edges.length c, .int .i64 weight, .int .i64 cls, .int .i64 edge, .int .i64 far, .int .i64 left] 44)).alloc (.cells #[.slice none 0 0, .bool false] 80)) (w.heap.size + 1) (w.heap.size + 1) ([], false) := IsV.newAt _ _ (by simp)
  go_enter Try.func20, Try.ntmps20
  go_wp2_with fail
  (with_reducible refine (refPutAny v0 1 (by omega) (by omega) 5 (by simp)).mono ?_)
  rintro e w1 ⟨rfl, v1, b1'⟩
  rw [← H1.out] at v1
  have e1 := e0.below b1' (by omega)
  have b1 := b0.trans (b1'.mono (by omega))
  obtain ⟨q0, q1, q2, q3, q4, q5, q6, q7, q8⟩ := cells9 e1
  clear v0 b1' e0 b0
  go_wp2_with fail
  clear q0 q1 q2 q3 q4 q5 q6 q7 q8
  (with_reducible refine (refPutAny v1 5 (by omega) (by omega) weight (by omega)).mono ?_)
  rintro e w2 ⟨rfl, v2, b2'⟩
  rw [← H2.out] at v2
  have e2 := e1.below b2' (by omega)
  have b2 := b1.trans (b2'.mono (by omega))
  obtain ⟨q0, q1, q2, q3, q4, q5, q6, q7, q8⟩ := cells9 e2
  clear v1 b2' e1 b1
  go_wp2_with fail
  clear q0 q1 q2 q3 q4 q5 q6 q7 q8
  (with_reducible refine (refPutAny v2 2 (by omega) (by omega) (edges.length : Int) (by omega)).mono ?_)
  rintro e w3 ⟨rfl, v3, b3'⟩
  rw [← H3.out] at v3
  have e3 := e2.below b3' (by omega)
  have b3 := b2.trans (b3'.mono (by omega))
  obtain ⟨q0, q1, q2, q3, q4, q5, q6, q7, q8⟩ := cells9 e3
  clear v2 b3' e2 b2
  have hs3 := hs.below b3
  have e3l := e3.lt
  clear q0 q1 q2 q3 q4 q5 q6 q7 q8
  go_wp2_with fail
  go_loopw [5] (fun i wr => ∃ k : Nat, k ≤ edges.length ∧ i = .int .i64 k ∧ IsV wr (w.heap.size + 1) (w.heap.size + 1) (Mp.puts 2 (edges.take k) s3) ∧ Below (w.heap.size + 1) w3 wr) (fun i _ => edges.length - (intOf i).toNat)
  case atStart => exact ⟨0, Nat.zero_le _, rfl, by simpa [Mp.puts] using v3, Below.refl _ _⟩
  case round =>
    obtain ⟨k, hk, rfl, vk, bk⟩ := hrel
    have ek := e3.below bk (by omega)
    obtain ⟨q0, q1, q2, q3, q4, q5, q6, q7, q8⟩ := cells9 ek
    have bk0 := b3.trans (bk.mono (by omega))
    by_cases hlt : k < edges.length
    · obtain ⟨bb, o, rfl, hx⟩ := (hs.below bk0).cell (j := k) (by rw [iv_length]; exact hlt)
      obtain ⟨x, hxe⟩ : ∃ x, x = edges[k] := ⟨_, rfl⟩
      have hx' : wr.cell? ⟨bb, o + k, none⟩ = some (.int .i64 x) := by rw [hx]; simp [iv, hxe]
      have HK : Hid (Mp.puts 2 (edges.take (k + 1)) s3 = Mp.nums 2 [x] (Mp.puts 2 (edges.take k) s3)) := by
        rw [List.take_succ_eq_append_getElem hlt, hxe]; exact Lib.hid (Mp.puts_snoc _ _ _ _)
      have hpl := Mp.puts_length 2 (edges.take k) s3
      rw [List.length_take] at hpl
      clear hx hxe
      go_wp2_with fail
      (with_reducible refine (refPutAny vk 2 (by omega) (by omega) x (by omega)).mono ?_)
      rintro e w5 ⟨rfl, v5, b5⟩
      rw [← HK.out] at v5
      go_wp2
      exact ⟨⟨k + 1, by omega, by go_num, v5, bk.trans b5⟩, by simp [intOf]; omega⟩
    · have hk2 : edges.take k = edges := List.take_of_length_le (by omega)
      rw [hk2, ← H4.out] at vk
      clear hk2
      obtain ⟨w4, hw4⟩ : ∃ W, W = wr := ⟨_, rfl⟩
      rw [← hw4] at vk bk0 ek q0 q1 q2 q3 q4 q5 q6 q7 q8 ⊢
      clear hw4
      have v4 := vk
      have b4 := bk0
      obtain ⟨L, sp⟩ := s4
      (try simp only at v4)
      (try simp only at HR)
      obtain ⟨hB5, A5, cap5, g5, o5, f5⟩ := v4
      (try simp only at g5)
      (try simp only at o5)
      have p2 : w4.cell? ⟨w.heap.size + 1, 0, none⟩ = some (.slice A5 L.length cap5) := g5.cell 0
      have p3 : w4.cell? ⟨w.heap.size + 1, 1, none⟩ = some (.bool sp) := g5.cell 1
      cases sp
      · go_wp2_with fail
        go_ret2
        rw [HR.out]
        exact ⟨b4, A5, cap5, rfl, o5, fun k hk => by have := f5 k hk; omega⟩
      · go_wp2_with fail
        go_ret2
        rw [HR.out]
        exact ⟨b4, rfl⟩

set_option maxRecDepth 100000 in
set_option maxHeartbeats 1000000 in
theorem refMsg0 (kind pos dest weight cls edge far left : Int) (edges : List Int) (A : Option Addr) (c : Nat) (w : World) (k1 : ¬ kind = 1) (k2 : ¬ kind = 2) (k3 : ¬ kind = 3) (k4 : ¬ kind = 4) (k5 : ¬ kind = 5) (k6 : ¬ kind = 6) (k7 : ¬ kind = 7) (k8 : ¬ kind = 8) (k9 : ¬ kind = 9) :
    Calls Try.prog 20 #[.agg #[.int .i64 kind, .int .i64 pos, .int .i64 dest, .slice A edges.length c, .int .i64 weight, .int .i64 cls, .int .i64 edge, .int .i64 far, .int .i64 left]] w (RetM w (Mp.msgEnc ⟨kind, pos, dest, edges, weight, ⟨cls, edge, far, left⟩⟩)) := by
  have HR2 := Lib.hid (Mp.msgEnc0 ⟨kind, pos, dest, edges, weight, ⟨cls, edge, far, left⟩⟩ (by simp only; omega))
  rw [HR2.out]
  have d1 : (kind == 1) = false := by simpa using k1
  have d2 : (kind == 2) = false := by simpa using k2
  have d3 : (kind == 3) = false := by simpa using k3
  have d4 : (kind == 4) = false := by simpa using k4
  have d5 : (kind == 5) = false := by simpa using k5
  have d6 : (kind == 6) = false := by simpa using k6
  have d7 : (kind == 7) = false := by simpa using k7
  have d8 : (kind == 8) = false := by simpa using k8
  have d9 : (kind == 9) = false := by simpa using k9
  clear k1 k2 k3 k4 k5 k6 k7 k8 k9
  obtain ⟨s1, h1⟩ : ∃ s, s = Mp.nums 1 [kind] ([], false) := ⟨_, rfl⟩
  have a1 := nums_one (k := 0) h1 (by simp)
  have H1 := Lib.hid h1
  clear h1
  have e0 := (Blk.newAt w 44 #[.int .i64 kind, .int .i64 pos, .int .i64 dest, .slice A edges.length c, .int .i64 weight, .int .i64 cls, .int .i64 edge, .int .i64 far, .int .i64 left] _ rfl).alloc (.cells #[.slice none 0 0, .bool false] 80)
  have b0 : Below w.heap.size w ((w.alloc (.cells #[.int .i64 kind, .int .i64 pos, .int .i64 dest, .slice A edges.length c, .int .i64 weight, .int .i64 cls, .int .i64 edge, .int .i64 far, .int .i64 left] 44)).alloc (.cells #[.slice none 0 0, .bool false] 80)) := ((Below.refl _ w).alloc (Nat.le_refl _) _).alloc (by simp) _
  have v0 : IsV ((w.alloc (.cells #[.int .i64 kind, .int .i64 pos, .int .i64 dest, .slice A edges.length c, .int .i64 weight, .int .i64 cls, .int .i64 edge, .int .i64 far, .int .i64 left] 44)).alloc (.cells #[.slice none 0 0, .bool false] 80)) (w.heap.size + 1) (w.heap.size + 1) ([], false) := IsV.newAt _ _ (by simp)
  go_enter Try.func20, Try.ntmps20
  go_wp2_with fail
  (with_reducible refine (refPutAny v0 1 (by omega) (by omega) kind (by simp)).mono ?_)
  rintro e w1 ⟨rfl, v1, b1'⟩
  rw [← H1.out] at v1
  have e1 := e0.below b1' (by omega)
  have b1 := b0.trans (b1'.mono (by omega))
  obtain ⟨q0, q1, q2, q3, q4, q5, q6, q7, q8⟩ := cells9 e1
  clear v0 b1' e0 b0
  go_wp2_with fail
  go_ret2
  exact ⟨b1, rfl⟩

/-- the document's Message -/
theorem refMessage (m : Mp.Msg) (A : Option Addr) (c : Nat) (w : World) (hs : Seg w 3 A (iv m.edges)) :
    Calls Try.prog 20 #[.agg (mv m A c)] w (RetM w (Mp.msgEnc m)) := by
  obtain ⟨kind, pos, dest, edges, weight, ⟨cls, edge, far, left⟩⟩ := m
  simp only at hs
  by_cases k1 : kind = 1
  · subst k1; exact refMsg1 pos dest weight cls edge far left edges A c w
  by_cases k2 : kind = 2
  · subst k2; exact refMsg2 pos dest weight cls edge far left edges A c w
  by_cases k3 : kind = 3
  · subst k3; exact refMsg3 pos dest weight cls edge far left edges A c w
  by_cases k4 : kind = 4
  · subst k4; exact refMsg4 pos dest weight cls edge far left edges A c w
  by_cases k5 : kind = 5
  · subst k5
    by_cases hl : edges.length ≤ 512
    · exact refMsg5 pos dest weight cls edge far left edges A c w hs hl
    · exact refMsg5x pos dest weight cls edge far left edges A c w (by omega)
  by_cases k6 : kind = 6
  · subst k6; exact refMsg6 pos dest weight cls edge far left edges A c w
  by_cases k7 : kind = 7
  · subst k7
    by_cases he : -1 ≤ edge ∧ edge ≤ 65534
    · exact refMsg7 pos dest weight cls edge far left edges A c w he.1 he.2
    · exact refMsg7x pos dest weight cls edge far left edges A c w (by omega)
  by_cases k8 : kind = 8
  · subst k8; exact refMsg8 pos dest weight cls edge far left edges A c w
  by_cases k9 : kind = 9
  · subst k9; exact refMsg9 pos dest weight cls edge far left edges A c w
  exact refMsg0 kind pos dest weight cls edge far left edges A c w k1 k2 k3 k4 k5 k6 k7 k8 k9
end Go.Proofs.Ytemcpldipjbleaa
