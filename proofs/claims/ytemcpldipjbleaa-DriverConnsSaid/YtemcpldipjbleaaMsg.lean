/- message.writes, message.Encode. (Printed by wip/tools/genmsg.py.) -/
import Derived.Test.YtemcpldipjbleaaGram
namespace Go.Proofs.Ytemcpldipjbleaa
open Go.RowKit

/-- a message's fields, as cells -/
def mv (m : Mp.Msg) (A : Option Addr) (c : Nat) : Array Value :=
  #[.int .i64 m.kind, .int .i64 m.pos, .int .i64 m.dest, .slice A m.edges.length c, .int .i64 m.weight, .int .i64 m.hint.cls, .int .i64 m.hint.edge, .int .i64 m.hint.far, .int .i64 m.hint.left]
theorem cells9 {w : World} {g : Nat} {T : TypeId} {a b c d e f x y z : Value} (h : Blk w g T #[a, b, c, d, e, f, x, y, z]) :
    w.cell? ⟨g, 0, none⟩ = some a ∧ w.cell? ⟨g, 1, none⟩ = some b ∧ w.cell? ⟨g, 2, none⟩ = some c ∧ w.cell? ⟨g, 3, none⟩ = some d ∧ w.cell? ⟨g, 4, none⟩ = some e ∧ w.cell? ⟨g, 5, none⟩ = some f ∧
      w.cell? ⟨g, 6, none⟩ = some x ∧ w.cell? ⟨g, 7, none⟩ = some y ∧ w.cell? ⟨g, 8, none⟩ = some z :=
  ⟨h.cell 0, h.cell 1, h.cell 2, h.cell 3, h.cell 4, h.cell 5, h.cell 6, h.cell 7, h.cell 8⟩
theorem KeepX.drew {a w : World} (h : KeepX a w) : KeepX a w.drew := h
theorem KeepX.alloc {a w : World} (h : KeepX a w) (o : Obj) : KeepX a (w.alloc o) := fun T h1 h2 => (h T h1 h2).alloc o
theorem nums1_len {size : Int} {n : Int} {s t : Mp.Bytes × Bool} {k : Nat} (h : Mp.nums size [n] s = t) (hk : s.1.length ≤ k) : t.1.length ≤ k + 7 := by
  have := Mp.nums_length size [n] s; rw [h] at this; simp at this; omega

attribute [local go_sem ↓] Go.wp_at_zero Go.wp_at_succ
set_option maxRecDepth 100000 in
set_option maxHeartbeats 2000000 in
theorem writes1 {w : World} {B g : Nat} {s : Mp.Bytes × Bool} (hw : IsW w B g s) (hl : s.1.length ≤ 16) (pos dest weight cls edge far left : Int) (edges : List Int) (A : Option Addr) (c : Nat) :
    Calls Try.prog 67 #[.pointer (some ⟨g, 0, none⟩), .agg #[.int .i64 1, .int .i64 pos, .int .i64 dest, .slice A edges.length c, .int .i64 weight, .int .i64 cls, .int .i64 edge, .int .i64 far, .int .i64 left]] w fun e w' => e = .returned (.bool (Mp.msgW ⟨1, pos, dest, edges, weight, ⟨cls, edge, far, left⟩⟩ s).2) ∧ IsW w' B g (Mp.msgW ⟨1, pos, dest, edges, weight, ⟨cls, edge, far, left⟩⟩ s).1 ∧ Below B w w' := by
  have hB := hw.lt
  go_enter Try.func67, Try.ntmps67
  go_wp2_with fail
  (with_reducible refine (wNumsX (IsW.alloc (IsW.alloc hw _) _) 1 (by omega) (by omega) _ [1] 1 1 rfl ?_ (by simp; omega)).mono ?_)
  · exact Seg.newAt _ _ (iv [1]) _ (by simp)
  rintro e w1 ⟨rfl, hw1, hb1, hk1⟩
  have e1 := hk1.blk ((Blk.newAt w 44 (Value.cells (.agg #[.int .i64 1, .int .i64 pos, .int .i64 dest, .slice A edges.length c, .int .i64 weight, .int .i64 cls, .int .i64 edge, .int .i64 far, .int .i64 left])) _ rfl).alloc _) (by decide) (by decide)
  have b1 : Below B w w1 := ((((Below.refl _ w).alloc hB _).alloc (by simp; omega) _).trans hb1)
  generalize hs1 : Mp.nums 1 [1] s = s1 at hw1
  have hl1 := nums1_len hs1 hl
  have H1 := Lib.hid hs1
  have hz := e1.lt
  have hsz1 := b1.size
  have hk0 : KeepX w w1 := KeepX.trans (((KeepX.refl w).alloc _).alloc _) hk1
  obtain ⟨k0, k1, k2, k3, k4, k5, k6, k7, k8⟩ := cells9 e1
  clear hs1 hb1
  go_wp2_with fail
  (with_reducible refine (wNumsX (IsW.alloc hw1 _) 2 (by omega) (by omega) _ [pos, dest] 2 2 rfl ?_ (by simp; omega)).mono ?_)
  · exact Seg.newAt _ _ (iv [pos, dest]) _ (by simp)
  rintro e w2 ⟨rfl, hw2, hb2, hk2⟩
  have e2 := hk2.blk (e1.alloc _) (by decide) (by decide)
  obtain ⟨m0, _, _, _, _, _, _, _, _⟩ := cells9 e2
  go_wp2
  go_ret
  refine ⟨by simp [Mp.msgW], ?_, (b1.alloc (by omega) _).trans hb2⟩
  simp only [Mp.msgW]
  rw [if_pos trivial]
  rw [H1.out]
  exact hw2

set_option maxRecDepth 100000 in
set_option maxHeartbeats 2000000 in
theorem writes2 {w : World} {B g : Nat} {s : Mp.Bytes × Bool} (hw : IsW w B g s) (hl : s.1.length ≤ 16) (pos dest weight cls edge far left : Int) (edges : List Int) (A : Option Addr) (c : Nat) :
    Calls Try.prog 67 #[.pointer (some ⟨g, 0, none⟩), .agg #[.int .i64 2, .int .i64 pos, .int .i64 dest, .slice A edges.length c, .int .i64 weight, .int .i64 cls, .int .i64 edge, .int .i64 far, .int .i64 left]] w fun e w' => e = .returned (.bool (Mp.msgW ⟨2, pos, dest, edges, weight, ⟨cls, edge, far, left⟩⟩ s).2) ∧ IsW w' B g (Mp.msgW ⟨2, pos, dest, edges, weight, ⟨cls, edge, far, left⟩⟩ s).1 ∧ Below B w w' := by
  have hB := hw.lt
  go_enter Try.func67, Try.ntmps67
  go_wp2_with fail
  (with_reducible refine (wNumsX (IsW.alloc (IsW.alloc hw _) _) 1 (by omega) (by omega) _ [2] 1 1 rfl ?_ (by simp; omega)).mono ?_)
  · exact Seg.newAt _ _ (iv [2]) _ (by simp)
  rintro e w1 ⟨rfl, hw1, hb1, hk1⟩
  have e1 := hk1.blk ((Blk.newAt w 44 (Value.cells (.agg #[.int .i64 2, .int .i64 pos, .int .i64 dest, .slice A edges.length c, .int .i64 weight, .int .i64 cls, .int .i64 edge, .int .i64 far, .int .i64 left])) _ rfl).alloc _) (by decide) (by decide)
  have b1 : Below B w w1 := ((((Below.refl _ w).alloc hB _).alloc (by simp; omega) _).trans hb1)
  generalize hs1 : Mp.nums 1 [2] s = s1 at hw1
  have hl1 := nums1_len hs1 hl
  have H1 := Lib.hid hs1
  have hz := e1.lt
  have hsz1 := b1.size
  have hk0 : KeepX w w1 := KeepX.trans (((KeepX.refl w).alloc _).alloc _) hk1
  obtain ⟨k0, k1, k2, k3, k4, k5, k6, k7, k8⟩ := cells9 e1
  clear hs1 hb1
  go_wp2_with fail
  (with_reducible refine (wNumsX (IsW.alloc hw1 _) 2 (by omega) (by omega) _ [pos] 1 1 rfl ?_ (by simp; omega)).mono ?_)
  · exact Seg.newAt _ _ (iv [pos]) _ (by simp)
  rintro e w2 ⟨rfl, hw2, hb2, hk2⟩
  have e2 := hk2.blk (e1.alloc _) (by decide) (by decide)
  obtain ⟨m0, _, _, _, _, _, _, _, _⟩ := cells9 e2
  go_wp2
  go_ret
  refine ⟨by simp [Mp.msgW], ?_, (b1.alloc (by omega) _).trans hb2⟩
  simp only [Mp.msgW]
  rw [if_neg (by omega), if_pos (by simp)]
  rw [H1.out]
  exact hw2

set_option maxRecDepth 100000 in
set_option maxHeartbeats 2000000 in
theorem writes9 {w : World} {B g : Nat} {s : Mp.Bytes × Bool} (hw : IsW w B g s) (hl : s.1.length ≤ 16) (pos dest weight cls edge far left : Int) (edges : List Int) (A : Option Addr) (c : Nat) :
    Calls Try.prog 67 #[.pointer (some ⟨g, 0, none⟩), .agg #[.int .i64 9, .int .i64 pos, .int .i64 dest, .slice A edges.length c, .int .i64 weight, .int .i64 cls, .int .i64 edge, .int .i64 far, .int .i64 left]] w fun e w' => e = .returned (.bool (Mp.msgW ⟨9, pos, dest, edges, weight, ⟨cls, edge, far, left⟩⟩ s).2) ∧ IsW w' B g (Mp.msgW ⟨9, pos, dest, edges, weight, ⟨cls, edge, far, left⟩⟩ s).1 ∧ Below B w w' := by
  have hB := hw.lt
  go_enter Try.func67, Try.ntmps67
  go_wp2_with fail
  (with_reducible refine (wNumsX (IsW.alloc (IsW.alloc hw _) _) 1 (by omega) (by omega) _ [9] 1 1 rfl ?_ (by simp; omega)).mono ?_)
  · exact Seg.newAt _ _ (iv [9]) _ (by simp)
  rintro e w1 ⟨rfl, hw1, hb1, hk1⟩
  have e1 := hk1.blk ((Blk.newAt w 44 (Value.cells (.agg #[.int .i64 9, .int .i64 pos, .int .i64 dest, .slice A edges.length c, .int .i64 weight, .int .i64 cls, .int .i64 edge, .int .i64 far, .int .i64 left])) _ rfl).alloc _) (by decide) (by decide)
  have b1 : Below B w w1 := ((((Below.refl _ w).alloc hB _).alloc (by simp; omega) _).trans hb1)
  generalize hs1 : Mp.nums 1 [9] s = s1 at hw1
  have hl1 := nums1_len hs1 hl
  have H1 := Lib.hid hs1
  have hz := e1.lt
  have hsz1 := b1.size
  have hk0 : KeepX w w1 := KeepX.trans (((KeepX.refl w).alloc _).alloc _) hk1
  obtain ⟨k0, k1, k2, k3, k4, k5, k6, k7, k8⟩ := cells9 e1
  clear hs1 hb1
  go_wp2_with fail
  (with_reducible refine (wNumsX (IsW.alloc hw1 _) 2 (by omega) (by omega) _ [pos] 1 1 rfl ?_ (by simp; omega)).mono ?_)
  · exact Seg.newAt _ _ (iv [pos]) _ (by simp)
  rintro e w2 ⟨rfl, hw2, hb2, hk2⟩
  have e2 := hk2.blk (e1.alloc _) (by decide) (by decide)
  obtain ⟨m0, _, _, _, _, _, _, _, _⟩ := cells9 e2
  go_wp2
  go_ret
  refine ⟨by simp [Mp.msgW], ?_, (b1.alloc (by omega) _).trans hb2⟩
  simp only [Mp.msgW]
  rw [if_neg (by omega), if_pos (by simp)]
  rw [H1.out]
  exact hw2

set_option maxRecDepth 100000 in
set_option maxHeartbeats 2000000 in
theorem writes3 {w : World} {B g : Nat} {s : Mp.Bytes × Bool} (hw : IsW w B g s) (hl : s.1.length ≤ 16) (pos dest weight cls edge far left : Int) (edges : List Int) (A : Option Addr) (c : Nat) :
    Calls Try.prog 67 #[.pointer (some ⟨g, 0, none⟩), .agg #[.int .i64 3, .int .i64 pos, .int .i64 dest, .slice A edges.length c, .int .i64 weight, .int .i64 cls, .int .i64 edge, .int .i64 far, .int .i64 left]] w fun e w' => e = .returned (.bool (Mp.msgW ⟨3, pos, dest, edges, weight, ⟨cls, edge, far, left⟩⟩ s).2) ∧ IsW w' B g (Mp.msgW ⟨3, pos, dest, edges, weight, ⟨cls, edge, far, left⟩⟩ s).1 ∧ Below B w w' := by
  have hB := hw.lt
  go_enter Try.func67, Try.ntmps67
  go_wp2_with fail
  (with_reducible refine (wNumsX (IsW.alloc (IsW.alloc hw _) _) 1 (by omega) (by omega) _ [3] 1 1 rfl ?_ (by simp; omega)).mono ?_)
  · exact Seg.newAt _ _ (iv [3]) _ (by simp)
  rintro e w1 ⟨rfl, hw1, hb1, hk1⟩
  have e1 := hk1.blk ((Blk.newAt w 44 (Value.cells (.agg #[.int .i64 3, .int .i64 pos, .int .i64 dest, .slice A edges.length c, .int .i64 weight, .int .i64 cls, .int .i64 edge, .int .i64 far, .int .i64 left])) _ rfl).alloc _) (by decide) (by decide)
  have b1 : Below B w w1 := ((((Below.refl _ w).alloc hB _).alloc (by simp; omega) _).trans hb1)
  generalize hs1 : Mp.nums 1 [3] s = s1 at hw1
  have hl1 := nums1_len hs1 hl
  have H1 := Lib.hid hs1
  have hz := e1.lt
  have hsz1 := b1.size
  have hk0 : KeepX w w1 := KeepX.trans (((KeepX.refl w).alloc _).alloc _) hk1
  obtain ⟨k0, k1, k2, k3, k4, k5, k6, k7, k8⟩ := cells9 e1
  clear hs1 hb1
  go_wp2
  go_ret
  exact ⟨by simp [Mp.msgW], by simp [Mp.msgW, H1.out]; exact hw1, b1⟩

set_option maxRecDepth 100000 in
set_option maxHeartbeats 2000000 in
theorem writes4 {w : World} {B g : Nat} {s : Mp.Bytes × Bool} (hw : IsW w B g s) (hl : s.1.length ≤ 16) (pos dest weight cls edge far left : Int) (edges : List Int) (A : Option Addr) (c : Nat) :
    Calls Try.prog 67 #[.pointer (some ⟨g, 0, none⟩), .agg #[.int .i64 4, .int .i64 pos, .int .i64 dest, .slice A edges.length c, .int .i64 weight, .int .i64 cls, .int .i64 edge, .int .i64 far, .int .i64 left]] w fun e w' => e = .returned (.bool (Mp.msgW ⟨4, pos, dest, edges, weight, ⟨cls, edge, far, left⟩⟩ s).2) ∧ IsW w' B g (Mp.msgW ⟨4, pos, dest, edges, weight, ⟨cls, edge, far, left⟩⟩ s).1 ∧ Below B w w' := by
  have hB := hw.lt
  go_enter Try.func67, Try.ntmps67
  go_wp2_with fail
  (with_reducible refine (wNumsX (IsW.alloc (IsW.alloc hw _) _) 1 (by omega) (by omega) _ [4] 1 1 rfl ?_ (by simp; omega)).mono ?_)
  · exact Seg.newAt _ _ (iv [4]) _ (by simp)
  rintro e w1 ⟨rfl, hw1, hb1, hk1⟩
  have e1 := hk1.blk ((Blk.newAt w 44 (Value.cells (.agg #[.int .i64 4, .int .i64 pos, .int .i64 dest, .slice A edges.length c, .int .i64 weight, .int .i64 cls, .int .i64 edge, .int .i64 far, .int .i64 left])) _ rfl).alloc _) (by decide) (by decide)
  have b1 : Below B w w1 := ((((Below.refl _ w).alloc hB _).alloc (by simp; omega) _).trans hb1)
  generalize hs1 : Mp.nums 1 [4] s = s1 at hw1
  have hl1 := nums1_len hs1 hl
  have H1 := Lib.hid hs1
  have hz := e1.lt
  have hsz1 := b1.size
  have hk0 : KeepX w w1 := KeepX.trans (((KeepX.refl w).alloc _).alloc _) hk1
  obtain ⟨k0, k1, k2, k3, k4, k5, k6, k7, k8⟩ := cells9 e1
  clear hs1 hb1
  go_wp2
  go_ret
  exact ⟨by simp [Mp.msgW], by simp [Mp.msgW, H1.out]; exact hw1, b1⟩

set_option maxRecDepth 100000 in
set_option maxHeartbeats 2000000 in
theorem writes6 {w : World} {B g : Nat} {s : Mp.Bytes × Bool} (hw : IsW w B g s) (hl : s.1.length ≤ 16) (pos dest weight cls edge far left : Int) (edges : List Int) (A : Option Addr) (c : Nat) :
    Calls Try.prog 67 #[.pointer (some ⟨g, 0, none⟩), .agg #[.int .i64 6, .int .i64 pos, .int .i64 dest, .slice A edges.length c, .int .i64 weight, .int .i64 cls, .int .i64 edge, .int .i64 far, .int .i64 left]] w fun e w' => e = .returned (.bool (Mp.msgW ⟨6, pos, dest, edges, weight, ⟨cls, edge, far, left⟩⟩ s).2) ∧ IsW w' B g (Mp.msgW ⟨6, pos, dest, edges, weight, ⟨cls, edge, far, left⟩⟩ s).1 ∧ Below B w w' := by
  have hB := hw.lt
  go_enter Try.func67, Try.ntmps67
  go_wp2_with fail
  (with_reducible refine (wNumsX (IsW.alloc (IsW.alloc hw _) _) 1 (by omega) (by omega) _ [6] 1 1 rfl ?_ (by simp; omega)).mono ?_)
  · exact Seg.newAt _ _ (iv [6]) _ (by simp)
  rintro e w1 ⟨rfl, hw1, hb1, hk1⟩
  have e1 := hk1.blk ((Blk.newAt w 44 (Value.cells (.agg #[.int .i64 6, .int .i64 pos, .int .i64 dest, .slice A edges.length c, .int .i64 weight, .int .i64 cls, .int .i64 edge, .int .i64 far, .int .i64 left])) _ rfl).alloc _) (by decide) (by decide)
  have b1 : Below B w w1 := ((((Below.refl _ w).alloc hB _).alloc (by simp; omega) _).trans hb1)
  generalize hs1 : Mp.nums 1 [6] s = s1 at hw1
  have hl1 := nums1_len hs1 hl
  have H1 := Lib.hid hs1
  have hz := e1.lt
  have hsz1 := b1.size
  have hk0 : KeepX w w1 := KeepX.trans (((KeepX.refl w).alloc _).alloc _) hk1
  obtain ⟨k0, k1, k2, k3, k4, k5, k6, k7, k8⟩ := cells9 e1
  clear hs1 hb1
  go_wp2
  go_ret
  exact ⟨by simp [Mp.msgW], by simp [Mp.msgW, H1.out]; exact hw1, b1⟩

set_option maxRecDepth 100000 in
set_option maxHeartbeats 2000000 in
theorem writes8 {w : World} {B g : Nat} {s : Mp.Bytes × Bool} (hw : IsW w B g s) (hl : s.1.length ≤ 16) (pos dest weight cls edge far left : Int) (edges : List Int) (A : Option Addr) (c : Nat) :
    Calls Try.prog 67 #[.pointer (some ⟨g, 0, none⟩), .agg #[.int .i64 8, .int .i64 pos, .int .i64 dest, .slice A edges.length c, .int .i64 weight, .int .i64 cls, .int .i64 edge, .int .i64 far, .int .i64 left]] w fun e w' => e = .returned (.bool (Mp.msgW ⟨8, pos, dest, edges, weight, ⟨cls, edge, far, left⟩⟩ s).2) ∧ IsW w' B g (Mp.msgW ⟨8, pos, dest, edges, weight, ⟨cls, edge, far, left⟩⟩ s).1 ∧ Below B w w' := by
  have hB := hw.lt
  go_enter Try.func67, Try.ntmps67
  go_wp2_with fail
  (with_reducible refine (wNumsX (IsW.alloc (IsW.alloc hw _) _) 1 (by omega) (by omega) _ [8] 1 1 rfl ?_ (by simp; omega)).mono ?_)
  · exact Seg.newAt _ _ (iv [8]) _ (by simp)
  rintro e w1 ⟨rfl, hw1, hb1, hk1⟩
  have e1 := hk1.blk ((Blk.newAt w 44 (Value.cells (.agg #[.int .i64 8, .int .i64 pos, .int .i64 dest, .slice A edges.length c, .int .i64 weight, .int .i64 cls, .int .i64 edge, .int .i64 far, .int .i64 left])) _ rfl).alloc _) (by decide) (by decide)
  have b1 : Below B w w1 := ((((Below.refl _ w).alloc hB _).alloc (by simp; omega) _).trans hb1)
  generalize hs1 : Mp.nums 1 [8] s = s1 at hw1
  have hl1 := nums1_len hs1 hl
  have H1 := Lib.hid hs1
  have hz := e1.lt
  have hsz1 := b1.size
  have hk0 : KeepX w w1 := KeepX.trans (((KeepX.refl w).alloc _).alloc _) hk1
  obtain ⟨k0, k1, k2, k3, k4, k5, k6, k7, k8⟩ := cells9 e1
  clear hs1 hb1
  go_wp2
  go_ret
  exact ⟨by simp [Mp.msgW], by simp [Mp.msgW, H1.out]; exact hw1, b1⟩

/-! region kinds follow -/
end Go.Proofs.Ytemcpldipjbleaa
