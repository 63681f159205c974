/- message.Encode, at the kinds that a driver sends (and any kind that 'writes' is told of). -/
import Derived.Test.YtemcpldipjbleaaMsg
namespace Go.Proofs.Ytemcpldipjbleaa
open Go.RowKit

/-- what message.writes does with m -/
def Writes (m : Mp.Msg) : Prop := ∀ (w : World) (B g : Nat) (s : Mp.Bytes × Bool) (A : Option Addr) (c : Nat), IsW w B g s → s.1.length ≤ 16 → Seg w 3 A (iv m.edges) → m.edges.length ≤ 1099511627776 →
    Calls Try.prog 67 #[.pointer (some ⟨g, 0, none⟩), .agg (mv m A c)] w fun e w' => e = .returned (.bool (Mp.msgW m s).2) ∧ IsW w' B g (Mp.msgW m s).1 ∧ Below B w w'

theorem writesKind1 (pos dest weight : Int) (edges : List Int) (h : Mp.Hint) : Writes ⟨1, pos, dest, edges, weight, h⟩ := fun _ _ _ _ A c hw hl _ _ => writes1 hw hl pos dest weight h.cls h.edge h.far h.left edges A c
theorem writesKind2 (pos dest weight : Int) (edges : List Int) (h : Mp.Hint) : Writes ⟨2, pos, dest, edges, weight, h⟩ := fun _ _ _ _ A c hw hl _ _ => writes2 hw hl pos dest weight h.cls h.edge h.far h.left edges A c
theorem writesKind3 (pos dest weight : Int) (edges : List Int) (h : Mp.Hint) : Writes ⟨3, pos, dest, edges, weight, h⟩ := fun _ _ _ _ A c hw hl _ _ => writes3 hw hl pos dest weight h.cls h.edge h.far h.left edges A c
theorem writesKind4 (pos dest weight : Int) (edges : List Int) (h : Mp.Hint) : Writes ⟨4, pos, dest, edges, weight, h⟩ := fun _ _ _ _ A c hw hl _ _ => writes4 hw hl pos dest weight h.cls h.edge h.far h.left edges A c
theorem writesKind6 (pos dest weight : Int) (edges : List Int) (h : Mp.Hint) : Writes ⟨6, pos, dest, edges, weight, h⟩ := fun _ _ _ _ A c hw hl _ _ => writes6 hw hl pos dest weight h.cls h.edge h.far h.left edges A c
theorem writesKind8 (pos dest weight : Int) (edges : List Int) (h : Mp.Hint) : Writes ⟨8, pos, dest, edges, weight, h⟩ := fun _ _ _ _ A c hw hl _ _ => writes8 hw hl pos dest weight h.cls h.edge h.far h.left edges A c
theorem writesKind9 (pos dest weight : Int) (edges : List Int) (h : Mp.Hint) : Writes ⟨9, pos, dest, edges, weight, h⟩ := fun _ _ _ _ A c hw hl _ _ => writes9 hw hl pos dest weight h.cls h.edge h.far h.left edges A c

theorem msgW_length (m : Mp.Msg) : (Mp.msgW m ([], false)).1.1.length ≤ 40 + m.edges.length * 7 := by
  have a1 := Mp.nums_length 1 [m.kind] ([], false)
  unfold Mp.msgW
  generalize Mp.nums 1 [m.kind] ([], false) = t at a1 ⊢
  have a2 := Mp.nums_length 2 [m.pos, m.dest] t
  have a3 := Mp.nums_length 2 [m.pos] t
  have a5 := Mp.nums_length 5 [m.weight] t
  have a6 := Mp.nums_length 2 [(m.edges.length : Int)] (Mp.nums 5 [m.weight] t)
  have a7 := Mp.nums_length 2 m.edges (Mp.nums 2 [(m.edges.length : Int)] (Mp.nums 5 [m.weight] t))
  have b1 := Mp.nums_length 1 [m.hint.cls] t
  have b2 := Mp.nums_length 2 [m.hint.edge + 1] (Mp.nums 1 [m.hint.cls] t)
  have b3 := Mp.nums_length 5 [m.hint.far, m.hint.left] (Mp.nums 2 [m.hint.edge + 1] (Mp.nums 1 [m.hint.cls] t))
  simp only [List.length_cons, List.length_nil] at a1 a2 a3 a5 a6 a7 b1 b2 b3
  simp only
  split
  · simp only; omega
  · split
    · simp only; omega
    · split
      · simp only; omega
      · split
        · simp only; omega
        · simp only; omega

set_option maxRecDepth 100000 in
set_option maxHeartbeats 400000 in
theorem msgEncode (m : Mp.Msg) (hm : Writes m) (A : Option Addr) (c : Nat) (w : World) (hs : Seg w 3 A (iv m.edges)) (hn : m.edges.length ≤ 1099511627776) :
    Calls Try.prog 49 #[.agg (mv m A c)] w (RetB w (Mp.msgEnc m)) := by
  obtain ⟨kind, pos, dest, edges, weight, ⟨cls, edge, far, left⟩⟩ := m
  obtain ⟨t, ht⟩ : ∃ t, t = Mp.msgW ⟨kind, pos, dest, edges, weight, ⟨cls, edge, far, left⟩⟩ ([], false) := ⟨_, rfl⟩
  have hr : Mp.msgEnc ⟨kind, pos, dest, edges, weight, ⟨cls, edge, far, left⟩⟩ = if t.2 && !t.1.2 then some t.1.1 else none := by rw [ht]; rfl
  have HR := Lib.hid hr
  have hlen : t.1.1.length ≤ 70368744177664 := by
    have := msgW_length ⟨kind, pos, dest, edges, weight, ⟨cls, edge, far, left⟩⟩
    rw [ht]
    simp only at this hn
    omega
  unfold Writes at hm
  rw [show mv ⟨kind, pos, dest, edges, weight, ⟨cls, edge, far, left⟩⟩ A c = #[.int .i64 kind, .int .i64 pos, .int .i64 dest, .slice A edges.length c, .int .i64 weight, .int .i64 cls, .int .i64 edge, .int .i64 far, .int .i64 left] from rfl]
  have HM := Lib.hid hm
  clear hr hm
  go_enter Try.func49, Try.ntmps49
  go_wp2_with fail
  refine (HM.out _ w.heap.size (w.heap.size + 1) ([], false) A c ?_ (by simp) ?_ hn).mono ?_
  · have := IsW.newAt (w.alloc (.cells #[.int .i64 kind, .int .i64 pos, .int .i64 dest, .slice A edges.length c, .int .i64 weight, .int .i64 cls, .int .i64 edge, .int .i64 far, .int .i64 left] 44)) (w.heap.size + 1) (by simp)
    exact ⟨by omega, this.2.elim fun A' h => h.elim fun cap h => ⟨A', cap, h.1, h.2.1, fun k hk => by have := h.2.2 k hk; omega⟩⟩
  · exact (hs.alloc _).alloc _
  rw [← ht]
  rintro e w1 ⟨rfl, hw1, hb1⟩
  have B1 : Below w.heap.size w w1 := (((Below.refl _ w).alloc (Nat.le_refl _) _).alloc (by simp) _).trans hb1
  clear ht
  obtain ⟨⟨l, sp⟩, ok⟩ := t
  simp only at hw1 hlen HR
  cases ok
  · have HR2 : Hid (Mp.msgEnc ⟨kind, pos, dest, edges, weight, ⟨cls, edge, far, left⟩⟩ = none) := by refine Lib.hid ?_; rw [HR.out]; rfl
    go_wp2
    go_ret2
    rw [HR2.out]
    exact ⟨B1, rfl⟩
  · cases sp
    · have HR2 : Hid (Mp.msgEnc ⟨kind, pos, dest, edges, weight, ⟨cls, edge, far, left⟩⟩ = some l) := by refine Lib.hid ?_; rw [HR.out]; rfl
      go_wp2_with (go_at_call 68; (with_reducible refine (wBytes hw1 hlen).mono ?_); rintro e w4 ⟨A4, c4, rfl, ho4, hb4, hf4⟩)
      go_ret2
      rw [HR2.out]
      exact ⟨B1.trans (hb4.mono B1.size), A4, c4, rfl, ho4, fun k hk => Nat.le_trans B1.size (hf4 k hk)⟩
    · have HR2 : Hid (Mp.msgEnc ⟨kind, pos, dest, edges, weight, ⟨cls, edge, far, left⟩⟩ = none) := by refine Lib.hid ?_; rw [HR.out]; rfl
      go_wp2_with (go_at_call 68; (with_reducible refine (wBytes hw1 hlen).mono ?_); rintro e w4 ⟨rfl, rfl⟩)
      go_ret2
      rw [HR2.out]
      exact ⟨B1, rfl⟩
end Go.Proofs.Ytemcpldipjbleaa
