/- channel.data, pays. -/
import Derived.Test.YtemcpldipjbleaaChan
namespace Go.Proofs.Ytemcpldipjbleaa
open Go.RowKit

set_option maxRecDepth 100000 in
set_option maxHeartbeats 400000 in
theorem chanData {w : World} {x : Chs} {O : Option Addr} {cap : Nat} {C : Mp.Channel} (h : IsC w x O cap C) (seq : Int) :
    Calls Try.prog 66 #[.pointer (some ⟨x.ch, 0, none⟩), .int .i64 seq] w fun e w' => ∃ A c, e = .returned (.agg #[.int .i64 C.conn, .int .i64 1, .int .i64 seq, .int .i64 C.t.next, .int .i64 0, .slice A (C.s.body seq).length c]) ∧ IsB w' (.slice A (C.s.body seq).length c) (C.s.body seq) ∧
      Below w.heap.size w w' := by
  have l0 := Blk.newAt w 38 #[.int .i64 0, .int .i64 0, .int .i64 0, .int .i64 0, .int .i64 0, .slice none 0 0] _ rfl
  have ha := h.below ((Below.refl _ w).alloc (Nat.le_refl _) (.cells #[.int .i64 0, .int .i64 0, .int .i64 0, .int .i64 0, .int .i64 0, .slice none 0 0] 38))
  have HB := Lib.hid (senderBody ha.snd seq)
  have c0 := ha.blk.cell 0
  simp at c0
  go_enter Try.func66, Try.ntmps66
  go_wp2_with (go_at_call 80; (with_reducible refine HB.out.mono ?_); rintro e w1 ⟨A1, c1, rfl, o1, n1, b1, f1⟩)
  have h1 := ha.below b1
  have l1 := (l0.below b1 l0.lt).drew
  have d1 : w1.drew.cell? ⟨x.ch, 1, none⟩ = some (.int .i64 C.conn) := h1.blk.cell 1
  have d2 : w1.drew.cell? ⟨x.ch, 2, none⟩ = some (.pointer (some ⟨x.tk, 0, none⟩)) := h1.blk.cell 2
  have HN := Lib.hid (takerNext h1.tak.drew)
  obtain ⟨k0, k1, k2, k3, k4, k5⟩ := cells6 l1
  have fz : ∀ i, w1.drew.frozen? ⟨w.heap.size, i, none⟩ = false := fun i => l1.frozen i
  have fz1 : ∀ i, w1.frozen? ⟨w.heap.size, i, none⟩ = false := fun i => l1.frozen i
  obtain ⟨kk0, kk1, kk2, kk3, kk4, kk5⟩ := cells6 (show Blk w1 w.heap.size _ _ from l1)
  go_region_with (go_at_call 63; (with_reducible refine HN.out.mono ?_); rintro e w2 ⟨rfl, rfl⟩)
  all_goals
    obtain ⟨q1, q2, q3⟩ := set6 (show Blk w1 w.heap.size _ _ from l1) (.int .i64 C.conn) (.int .i64 1) (.int .i64 seq) (.int .i64 C.t.next) (.int .i64 0) (.slice A1 (C.s.body seq).length c1) _ rfl
    obtain ⟨i0, i1, i2, i3, i4, i5⟩ := cells6 q1.drew
    go_wp2
    refine bodyPost_ret (v := .agg #[.int .i64 C.conn, .int .i64 1, .int .i64 seq, .int .i64 C.t.next, .int .i64 0, .slice A1 (C.s.body seq).length c1]) (by simp [results, Try.f66, go_sem, i0, i1, i2, i3, i4, i5]) rfl ?_
    refine ⟨A1, c1, rfl, ⟨n1, A1, c1, rfl, o1.le, (o1.seg.keep (q3 _ (by decide))).drew⟩, ?_⟩
    exact (upd_below (((Upd.refl [w.heap.size] w).alloc _).below b1 |>.trans q2 (by simp)) (by simp) (Nat.le_refl _)).drew
end Go.Proofs.Ytemcpldipjbleaa
