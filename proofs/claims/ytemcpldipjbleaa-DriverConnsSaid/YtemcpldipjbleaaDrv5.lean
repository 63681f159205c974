/- driver: what is asked of none, and what is refused; a new channel's first message. -/
import Derived.Test.YtemcpldipjbleaaDrv4
namespace Go.Proofs.Ytemcpldipjbleaa
open Go.RowKit
attribute [local go_sem ↓] Go.wp_at_zero Go.wp_at_succ

theorem drvStartNil (now at_ node : Int) (w : World) : Calls Try.prog 10 #[.pointer none, .int .i64 now, .int .i64 at_, .int .i64 node] w fun e w' => e = .returned (.tuple #[.slice none 0 0, .int .i64 4]) ∧ w = w' := by
  go_enter Try.func10, Try.ntmps10
  go_wp2
  go_ret2
  exact ⟨rfl, rfl⟩
theorem drvAtNil (w : World) : Calls Try.prog 13 #[.pointer none] w fun e w' => e = .returned (.int .i64 (-1)) ∧ w = w' := by
  go_enter Try.func13, Try.ntmps13
  go_wp2
  go_ret
  exact ⟨rfl, rfl⟩
theorem drvLiveNil (w : World) : Calls Try.prog 12 #[.pointer none] w fun e w' => e = .returned (.bool false) ∧ w = w' := by
  go_enter Try.func12, Try.ntmps12
  go_wp2
  go_ret
  exact ⟨rfl, rfl⟩
set_option maxRecDepth 100000 in
theorem drvStartLow (d : Nat) (now node : Int) (w : World) : Calls Try.prog 10 #[.pointer (some ⟨d, 0, none⟩), .int .i64 now, .int .i64 (-1), .int .i64 node] w fun e w' => e = .returned (.tuple #[.slice none 0 0, .int .i64 1]) ∧ w = w' := by
  have hwa : Mp.within (-1) 0 65535 = false := rfl
  go_enter Try.func10, Try.ntmps10
  go_wp2_with (go_at_call 27; (with_reducible refine (drvWithin _ _).mono ?_); rintro e w1 ⟨rfl, rfl⟩; rw [hwa])
  go_ret2
  exact ⟨rfl, rfl⟩
set_option maxRecDepth 100000 in
theorem drvFollowOver {w : World} {d : Nat} {c : Mp.Cfg} {ch : Value} {conn : Int} {why at_ : Int} {way : Value} {has : Bool} (h : Blk w d 66 (dc c ch conn false why at_ way has)) (now : Int) :
    Calls Try.prog 23 #[.pointer (some ⟨d, 0, none⟩), .int .i64 now] w fun e w' => e = .returned (.tuple #[.slice none 0 0, .int .i64 4]) ∧ w = w' := by
  have HL := Lib.hid (drvLive h)
  go_enter Try.func23, Try.ntmps23
  go_wp2_with (go_at_call 12; (with_reducible refine HL.out.mono ?_); rintro e w1 ⟨rfl, rfl⟩)
  go_ret2
  exact ⟨rfl, rfl⟩

theorem within_le {n a b : Int} (h : Mp.within n a b = true) : a ≤ n ∧ n ≤ b := by simpa [Mp.within] using h
theorem ok_window {c : Mp.Cfg} (h : Mp.okCfg c = true) : 1 ≤ c.window ∧ c.window ≤ 16 := by
  simp only [Mp.okCfg, Bool.and_eq_true] at h
  exact within_le h.1.1.1.1.2
/-- a new channel's first body is sent at once -/
theorem push_new {c : Mp.Cfg} (hc : Mp.okCfg c = true) (conn now : Int) (l : Mp.Bytes) : ((Mp.Channel.new c conn).push now l).1 = [⟨conn, 1, 0, 0, 0, l⟩] := by
  have hw := ok_window hc
  have ho : (Mp.Channel.new c conn).s.over = false := rfl
  rw [push_eq (C := Mp.Channel.new c conn) ho (by simp [Mp.Channel.new])]
  have hr : ¬ c.window ≤ 0 := by omega
  simp [Mp.Channel.new, Mp.Channel.pays, Mp.Channel.paysK, Mp.Sender.room, Mp.Sender.send, Mp.Channel.data, Mp.Sender.body, Mp.look, hr]
end Go.Proofs.Ytemcpldipjbleaa
