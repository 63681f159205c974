/- driver.Recv of what is not its own, and of a Reset; Report of a driver that is over. -/
import Derived.Test.YtemcpldipjbleaaDrv3
namespace Go.Proofs.Ytemcpldipjbleaa
open Go.RowKit
attribute [local go_sem ↓] Go.wp_at_zero Go.wp_at_succ

set_option maxRecDepth 100000 in
set_option maxHeartbeats 1000000 in
theorem drvRecvOther {w : World} {d : Nat} {c : Mp.Cfg} {ch : Value} {conn : Int} {why at_ : Int} {way : Value} {has : Bool} (h : Blk w d 66 (dc c ch conn true why at_ way has)) (now : Int) (A : Option Addr) (b : Mp.Bytes) (n : Nat) (hs : Seg w 5 A (bv b)) (hcap : b.length ≤ n) (hb : b.length ≤ 35184372088832)
    (g : Mp.Gram) (hg : Mp.gramDec b = some g) (hne : g.conn ≠ conn) :
    Calls Try.prog 17 #[.pointer (some ⟨d, 0, none⟩), .int .i64 now, .slice A b.length n] w fun e w' => e = .returned (.tuple #[.slice none 0 0, .slice none 0 0]) ∧ Below w.heap.size w w' := by
  have HD := Lib.hid (gramDecode A b n w hs hcap hb)
  rw [hg] at HD
  have HL := fun W (hW : Blk W d 66 (dc c ch conn true why at_ way has)) => Lib.hid (drvLive hW)
  obtain ⟨gc, gk, gs, ga, gd, gb⟩ := g
  simp only at hne
  have hn2 : (gc != conn) = true := by simpa using hne
  go_enter Try.func17, Try.ntmps17
  go_wp2_with fail
  (with_reducible refine HD.out.mono ?_)
  rintro e w1 ⟨b1, A1, c1, rfl, hc1, hs1, hf1⟩
  simp only [gv]
  have h1 := h.below b1 h.lt
  have hAl := (Below.refl w1.heap.size w1).alloc (Nat.le_refl _) (.cells #[.int .i64 gc, .int .i64 gk, .int .i64 gs, .int .i64 ga, .int .i64 gd, .slice A1 gb.length c1] 38)
  have h2 := h1.below hAl h1.lt
  have l2 := Blk.newAt w1 38 #[.int .i64 gc, .int .i64 gk, .int .i64 gs, .int .i64 ga, .int .i64 gd, .slice A1 gb.length c1] _ rfl
  have B2 := b1.trans (hAl.mono b1.size)
  have c7 : (w1.alloc (.cells #[.int .i64 gc, .int .i64 gk, .int .i64 gs, .int .i64 ga, .int .i64 gd, .slice A1 gb.length c1] 38)).cell? ⟨d, 7, none⟩ = some (.int .i64 conn) := h2.cell 7
  obtain ⟨k0, k1, k2, k3, k4, k5⟩ := cells6 l2
  generalize hW : (w1.alloc (.cells #[.int .i64 gc, .int .i64 gk, .int .i64 gs, .int .i64 ga, .int .i64 gd, .slice A1 gb.length c1] 38)) = W at h2 l2 B2 c7 k0 k1 k2 k3 k4 k5
  have HLW := HL W.drew h2.drew
  clear hne HL hAl
  go_wp2_with fail
  try rw [hW]
  clear hW
  have c7d : W.drew.cell? ⟨d, 7, none⟩ = some (.int .i64 conn) := c7
  have k0d : W.drew.cell? ⟨w1.heap.size, 0, none⟩ = some (.int .i64 gc) := k0
  go_region_with (go_at_call 12; (with_reducible refine HLW.out.mono ?_); rintro e w3 ⟨rfl, rfl⟩)
  all_goals
    go_wp2
    go_ret2
    exact ⟨rfl, B2.drew⟩

set_option maxRecDepth 100000 in
set_option maxHeartbeats 1000000 in
theorem drvRecvReset {w : World} {d : Nat} {c : Mp.Cfg} {ch : Value} {conn : Int} {why at_ : Int} {way : Value} {has : Bool} (h : Blk w d 66 (dc c ch conn true why at_ way has)) (now : Int) (A : Option Addr) (b : Mp.Bytes) (n : Nat) (hs : Seg w 5 A (bv b)) (hcap : b.length ≤ n) (hb : b.length ≤ 35184372088832)
    (code seq ack : Int) (body : Mp.Bytes) (hg : Mp.gramDec b = some ⟨conn, 3, seq, ack, code, body⟩) :
    Calls Try.prog 17 #[.pointer (some ⟨d, 0, none⟩), .int .i64 now, .slice A b.length n] w fun e w' => e = .returned (.tuple #[.slice none 0 0, .slice none 0 0]) ∧
      Blk w' d 66 (dc c ch conn false code at_ way has) ∧ Upd [d] w w' ∧ ∀ T, 66 ≠ T → Keep T w w' := by
  have HD := Lib.hid (gramDecode A b n w hs hcap hb)
  rw [hg] at HD
  have HL := fun W (hW : Blk W d 66 (dc c ch conn true why at_ way has)) => Lib.hid (drvLive hW)
  have hn2 : (conn != conn) = false := by simp
  go_enter Try.func17, Try.ntmps17
  go_wp2_with fail
  (with_reducible refine HD.out.mono ?_)
  rintro e w1 ⟨b1, A1, c1, rfl, hc1, hs1, hf1⟩
  simp only [gv]
  have h1 := h.below b1 h.lt
  have hAl := (Below.refl w1.heap.size w1).alloc (Nat.le_refl _) (.cells #[.int .i64 conn, .int .i64 3, .int .i64 seq, .int .i64 ack, .int .i64 code, .slice A1 body.length c1] 38)
  have h2 := h1.below hAl h1.lt
  have l2 := Blk.newAt w1 38 #[.int .i64 conn, .int .i64 3, .int .i64 seq, .int .i64 ack, .int .i64 code, .slice A1 body.length c1] _ rfl
  have B2 := b1.trans (hAl.mono b1.size)
  have hz1 := h1.lt
  generalize hW : (w1.alloc (.cells #[.int .i64 conn, .int .i64 3, .int .i64 seq, .int .i64 ack, .int .i64 code, .slice A1 body.length c1] 38)) = W at h2 l2 B2
  have HLW := HL W.drew h2.drew
  clear HL hAl
  go_wp2_with fail
  try rw [hW]
  clear hW
  have c7 : W.cell? ⟨d, 7, none⟩ = some (.int .i64 conn) := h2.cell 7
  have c7d : W.drew.cell? ⟨d, 7, none⟩ = some (.int .i64 conn) := h2.cell 7
  obtain ⟨k0, k1, k2, k3, k4, k5⟩ := cells6 l2
  have k0d : W.drew.cell? ⟨w1.heap.size, 0, none⟩ = some (.int .i64 conn) := k0
  have c8 : W.cell? ⟨d, 8, none⟩ = some (.bool true) := h2.cell 8
  have c9 : W.cell? ⟨d, 9, none⟩ = some (.int .i64 why) := h2.cell 9
  have fz : ∀ i, W.frozen? ⟨d, i, none⟩ = false := fun i => h2.frozen i
  go_region_with (go_at_call 12; (with_reducible refine HLW.out.mono ?_); rintro e w3 ⟨rfl, rfl⟩)
  all_goals
    go_wp2_with fail
    go_region
    all_goals
      obtain ⟨m1, u1, kk1⟩ := stores2 (i := 8) (j := 9) (cs1 := dc c ch conn false why at_ way has) (cs2 := dc c ch conn false code at_ way has) h2 (.bool false) (.int .i64 code) _ rfl (by simp [dc]) (by simp [dc])
      go_wp2
      go_ret2
      exact ⟨rfl, m1.drew.drew, (((Upd.of_below B2 [d]).trans u1 (fun k hk => .inl hk)).drew).drew, fun T hT => (((Keep.of_below B2).trans (kk1 T hT)).drew).drew⟩

set_option maxRecDepth 100000 in
theorem drvReportOver {w : World} {d : Nat} {c : Mp.Cfg} {ch : Value} {conn : Int} {why at_ : Int} {way : Value} {has : Bool} (h : Blk w d 66 (dc c ch conn false why at_ way has)) (now pos : Int) :
    Calls Try.prog 19 #[.pointer (some ⟨d, 0, none⟩), .int .i64 now, .int .i64 pos] w fun e w' => e = .returned (.tuple #[.slice none 0 0, .int .i64 4]) ∧ w = w' := by
  have HL := Lib.hid (drvLive h)
  go_enter Try.func19, Try.ntmps19
  go_wp2_with (go_at_call 12; (with_reducible refine HL.out.mono ?_); rintro e w1 ⟨rfl, rfl⟩)
  go_ret2
  exact ⟨rfl, rfl⟩
end Go.Proofs.Ytemcpldipjbleaa
