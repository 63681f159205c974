/- milepostlaw31.DriverConns answers true, whatever it is called with: each Start is a new connection. -/
import Derived.Test.YtemcpldipjbleaaAwake
import Derived.Test.YtemcpldipjbleaaRefRM
import Derived.Test.YtemcpldipjbleaaSmall
namespace Go.Proofs.Ytemcpldipjbleaa
open Go.RowKit
attribute [local go_sem ↓] Go.wp_at_zero Go.wp_at_succ

/-- ahead of the j-th Start -/
def ConnsR (w : World) (d : Nat) (C : Mp.Cfg) (j : Nat) (wr : World) : Prop :=
  ∃ ch live why at_ way has, Blk wr d 66 (dc C ch ((j : Int) - 1) live why at_ way has) ∧ (2 ≤ j → live = true) ∧ Below w.heap.size w wr

set_option maxRecDepth 100000 in
set_option maxHeartbeats 2000000 in
theorem lawConns (A : Option Addr) (l : List Int) (c : Nat) (starts code : Int) (w : World) (hs : Arg w.heap.size w A (iv l)) :
    Calls Try.prog 3 #[.slice A l.length c, .int .i64 starts, .int .i64 code] w fun e w' => e = .returned (.bool true) ∧ Below w.heap.size w w' := by
  have HA := fun W => Lib.hid (lawAwake W)
  by_cases hg : 20 < l.length ∨ starts < 1 ∨ 20 < starts
  · have hl1 : decide ((20 : Int) < (l.length : Int)) = decide (20 < l.length) := by simp; omega
    by_cases g1 : 20 < l.length
    · have d1 : decide ((20 : Int) < (l.length : Int)) = true := by simp; omega
      clear hg hl1
      go_enter Try.func3, Try.ntmps3
      go_wp2_with fail
      (with_reducible refine (HA _).out.mono ?_)
      rintro e w1 ⟨rfl, b1⟩
      go_wp2_with fail
      go_ret
      exact ⟨rfl, b1⟩
    · have d1 : decide ((20 : Int) < (l.length : Int)) = false := by simp; omega
      by_cases g2 : starts < 1
      · have d2 : decide (starts < 1) = true := by simpa using g2
        clear hg hl1
        go_enter Try.func3, Try.ntmps3
        go_wp2_with fail
        (with_reducible refine (HA _).out.mono ?_)
        rintro e w1 ⟨rfl, b1⟩
        go_wp2_with fail
        go_ret
        exact ⟨rfl, b1⟩
      · have d2 : decide (starts < 1) = false := by simpa using g2
        have d3 : decide (20 < starts) = true := by simp; omega
        clear hg hl1
        go_enter Try.func3, Try.ntmps3
        go_wp2_with fail
        (with_reducible refine (HA _).out.mono ?_)
        rintro e w1 ⟨rfl, b1⟩
        go_wp2_with fail
        go_ret
        exact ⟨rfl, b1⟩
  have d1 : decide ((20 : Int) < (l.length : Int)) = false := by simp; omega
  have d2 : decide (starts < 1) = false := by simp; omega
  have d3 : decide (20 < starts) = false := by simp; omega
  have hs1 : 1 ≤ starts := by omega
  have hs2 : starts ≤ 20 := by omega
  have HSm := Lib.hid (refSmall A l c (by omega) w hs)
  clear hg
  go_enter Try.func3, Try.ntmps3
  go_wp2_with fail
  (with_reducible refine HSm.out.mono ?_)
  rintro e w1 ⟨s, wi, r, b, cp, i, rfl, hc, b1⟩
  have HN := drvNewOk ⟨s, wi, r, b, cp, i⟩ hc w1
  simp only [cv] at HN
  go_wp2_with fail
  (with_reducible refine HN.mono ?_)
  rintro e w2 ⟨d, rfl, d2', b2, hd⟩
  have B2 := b1.trans (b2.mono b1.size)
  have hdw : w.heap.size ≤ d := by have := b1.size; omega
  obtain ⟨C, hC⟩ : ∃ C : Mp.Cfg, C = ⟨s, wi, r, b, cp, i⟩ := ⟨_, rfl⟩
  rw [← hC] at d2' hc
  clear hC HN b1 b2 hd HSm
  go_wp2_with fail
  (with_reducible refine (alikeRound code 4 (by omega) (by omega) w2).mono ?_)
  rintro e w3 ⟨rfl, rfl⟩
  obtain ⟨k1, k2⟩ := Mp.round_bounds code (n := 4) (by omega)
  generalize Mp.round code 4 = k0 at k1 k2 ⊢
  have hk0 : wrap64 (1 + k0) = 1 + k0 := IntWalk.wrap64_in _ ⟨by omega, by omega⟩
  go_wp2_with fail
  go_loopw [10] (fun i wr => ∃ j : Nat, 1 ≤ j ∧ (j : Int) ≤ starts + 1 ∧ i = .int .i64 j ∧ ConnsR w d C j wr) (fun i _ => (starts + 1 - intOf i).toNat)
  case atStart => exact ⟨1, by omega, by omega, rfl, _, _, _, _, _, _, d2', by omega, B2⟩
  case round =>
    obtain ⟨j, hj1, hj2, rfl, ch, live, why, at_, way, has, dj, hlive, Bj⟩ := hrel
    by_cases hlt : (j : Int) ≤ starts
    · obtain ⟨L, hL⟩ : ∃ L, Mp.msgEnc ⟨1, (j : Int), 0, [], 0, .zero⟩ = some L := ⟨_, openEnc (by omega) (by omega) (by omega) (by omega)⟩
      have hLl := msgEnc_length hL
      simp only [List.length_nil] at hLl
      obtain ⟨G, hG⟩ := Mp.gramEnc_data (conn := (j : Int)) (seq := 0) (ack := 0) (code := 0) (body := L) (by omega) (by omega) (by omega) (by omega) (by omega) (by omega) (by omega)
      have hpn := push_new hc (j : Int) 0 L
      have hE : encs ((Mp.Channel.new C (j : Int)).push 0 L).1 = [G] := by rw [hpn]; simp [encs, hG]
      have hGd : Mp.gramDecR G = some ⟨(j : Int), 1, 0, 0, 0, L⟩ := by rw [← Mp.gramDec_eq, Mp.gramDec_enc hG]; rfl
      have hMd : Mp.msgDecR L = some ⟨1, (j : Int), 0, [], 0, .zero⟩ := by rw [← Mp.msgDec_eq, Mp.msgDec_enc hL]; rfl
      have hGl := gramEnc_length hG
      obtain ⟨R, hR⟩ := Mp.gramEnc_reset (conn := (j : Int) - 1) (code := 1 + k0) (by omega) (by omega) (by omega) (by omega)
      have hRd : Mp.gramDec R = some ⟨(j : Int) - 1, 3, 0, 0, 1 + k0, []⟩ := Mp.gramDec_enc hR
      have hRl := gramEnc_length hR
      have HGm := fun W => refGram ⟨(j : Int) - 1, 3, 0, 0, 1 + k0, []⟩ none 0 W (Seg.nil _ _ _) (by simp)
      simp only [hR, gv, List.length_nil] at HGm
      have HGm := fun W => Lib.hid (HGm W)
      have hjj : (j : Int) - 1 + 1 = (j : Int) := by omega
      have HSt := drvStart dj hc (by omega) (by omega) 0 (by omega) (by omega) (j : Int) 0 (by omega) (by omega) (by omega) (by omega) L hL
      rw [hjj, hE] at HSt
      have HSt := Lib.hid HSt
      have HGd := Lib.hid hGd
      have HMd := Lib.hid hMd
      have HRd := Lib.hid hRd
      have n1 : ((j : Int) != (j : Int)) = false := by simp
      have hw1 : wrap64 ((j : Int) - 1) = (j : Int) - 1 := IntWalk.wrap64_in _ ⟨by omega, by omega⟩
      have hjn : (j : Int) - 1 ≠ (j : Int) := by omega
      clear hL hG hpn hE hGd hMd hR hRd hjj dj hlive
      go_wp2_with fail
      (with_reducible refine HSt.out.mono ?_)
      rintro e w4 ⟨A4, n4, x, O, cap, vs, rfl, d4, o4, v4, f4, ic4, fc4, u4, k4, mc4⟩
      have B4 := Bj.trans (upd_below u4 (by simp; omega) Bj.size)
      obtain ⟨v, rfl, hv⟩ : ∃ v, vs = [v] ∧ IsB w4 v G := by
        match vs, v4 with
        | [v], h => exact ⟨v, rfl, h.1⟩
      obtain ⟨hvl, Av, cv', rfl, hvc, hvs⟩ := hv
      obtain ⟨bo, oo, hA4, hcell⟩ := o4.seg.cell (j := 0) (by simp)
      simp at hcell
      subst hA4
      clear o4 v4 f4 ic4 fc4 u4 k4 mc4 HSt Bj
      go_wp2_with fail
      (with_reducible refine (drvConn d4).mono ?_)
      rintro e w5 ⟨rfl, rfl⟩
      go_wp2_with fail
      (with_reducible refine (drvLive d4).mono ?_)
      rintro e w5 ⟨rfl, rfl⟩
      go_wp2_with fail
      (with_reducible refine (drvAt d4).mono ?_)
      rintro e w5 ⟨rfl, rfl⟩
      have HRG := refReadGram Av G cv' w4 hvs hvc (by omega)
      rw [HGd.out] at HRG
      go_wp2_with fail
      (with_reducible refine HRG.mono ?_)
      rintro e w5 ⟨b5, A5, c5, rfl, hc5, hs5, _⟩
      simp only [gv] at hc5 hs5 ⊢
      have d5 := d4.below b5 d4.lt
      have B5 := B4.trans (b5.mono B4.size)
      have HRM := refReadMessage A5 L c5 (w5.alloc (.cells #[.int .i64 (j : Int), .int .i64 1, .int .i64 0, .int .i64 0, .int .i64 0, .slice A5 L.length c5] 38)) (hs5.alloc _) hc5
      rw [HMd.out] at HRM
      have e5 := Blk.newAt w5 38 #[.int .i64 (j : Int), .int .i64 1, .int .i64 0, .int .i64 0, .int .i64 0, .slice A5 L.length c5] _ rfl
      have d5a := d5.alloc (.cells #[.int .i64 (j : Int), .int .i64 1, .int .i64 0, .int .i64 0, .int .i64 0, .slice A5 L.length c5] 38)
      have B5a := B5.alloc B5.size (.cells #[.int .i64 (j : Int), .int .i64 1, .int .i64 0, .int .i64 0, .int .i64 0, .slice A5 L.length c5] 38)
      clear HRG d4 B4 b5 d5 B5 hcell
      go_wp2_with fail
      (with_reducible refine HRM.mono ?_)
      rintro e w6 ⟨b6, A6, c6, rfl, hc6, hs6, _⟩
      simp only [mv, Mp.Hint.zero] at hc6 hs6 ⊢
      have e6 := e5.below b6 e5.lt
      have d6 := d5a.below b6 d5a.lt
      have B6 := B5a.trans (b6.mono B5a.size)
      obtain ⟨y0, y1, y2, y3, y4, y5⟩ := cells6 (e6.alloc (.cells #[.int .i64 1, .int .i64 (j : Int), .int .i64 0, .slice A6 0 c6, .int .i64 0, .int .i64 0, .int .i64 0, .int .i64 0, .int .i64 0] 44))
      have d6a := d6.alloc (.cells #[.int .i64 1, .int .i64 (j : Int), .int .i64 0, .slice A6 0 c6, .int .i64 0, .int .i64 0, .int .i64 0, .int .i64 0, .int .i64 0] 44)
      have B6a := B6.alloc B6.size (.cells #[.int .i64 1, .int .i64 (j : Int), .int .i64 0, .slice A6 0 c6, .int .i64 0, .int .i64 0, .int .i64 0, .int .i64 0, .int .i64 0] 44)
      clear HRM e5 d5a B5a b6 d6 B6
      go_wp2_with fail
      (with_reducible refine (HGm _).out.mono ?_)
      rintro e w7 ⟨b7, A7, c7, rfl, o7, f7⟩
      have d7 := d6a.below b7 d6a.lt
      have B7 := B6a.trans (b7.mono B6a.size)
      have HRv := Lib.hid (drvRecvOther d7 0 A7 R c7 o7.seg o7.le (by omega) _ HRd.out hjn)
      clear d6a B6a b7 y0 y1 y2 y3 y4 y5
      go_wp2_with fail
      (with_reducible refine HRv.out.mono ?_)
      rintro e w8 ⟨rfl, b8⟩
      have d8 := d7.below b8 d7.lt
      have B8 := B7.trans (b8.mono B7.size)
      clear HRv d7 B7 b8
      go_wp2_with fail
      (with_reducible refine (drvLive d8).mono ?_)
      rintro e w9 ⟨rfl, rfl⟩
      go_wp2_with fail
      (with_reducible refine (drvWhy d8).mono ?_)
      rintro e w9 ⟨rfl, rfl⟩
      go_wp2
      refine ⟨⟨j + 1, by omega, by omega, by go_num, .pointer (some ⟨x.ch, 0, none⟩), true, 0, (j : Int), .slice none 0 0, false, ?_, fun _ => rfl, B8⟩, by simp [intOf]; omega⟩
      rw [show ((j + 1 : Nat) : Int) - 1 = (j : Int) by omega]
      exact d8
    · have hjs : (j : Int) = starts + 1 := by omega
      have hlv := hlive (by omega)
      subst hlv
      rw [show (j : Int) - 1 = starts by omega] at dj
      obtain ⟨R, hR⟩ := Mp.gramEnc_reset (conn := starts) (code := 1 + k0) (by omega) (by omega) (by omega) (by omega)
      have hRd : Mp.gramDec R = some ⟨starts, 3, 0, 0, 1 + k0, []⟩ := Mp.gramDec_enc hR
      have hRl := gramEnc_length hR
      have HGm := fun W => refGram ⟨starts, 3, 0, 0, 1 + k0, []⟩ none 0 W (Seg.nil _ _ _) (by simp)
      simp only [hR, gv, List.length_nil] at HGm
      have HGm := fun W => Lib.hid (HGm W)
      have HRd := Lib.hid hRd
      have n1 : (1 + k0 == 1 + k0) = true := by simp
      clear hR hRd hjs hlive
      go_wp2_with fail
      (with_reducible refine (HGm _).out.mono ?_)
      rintro e w7 ⟨b7, A7, c7, rfl, o7, f7⟩
      have d7 := dj.below b7 dj.lt
      have B7 := Bj.trans (b7.mono Bj.size)
      clear dj Bj b7
      go_wp2_with fail
      (with_reducible refine (drvRecvReset d7 0 A7 R c7 o7.seg o7.le (by omega) _ _ _ _ HRd.out).mono ?_)
      rintro e w8 ⟨rfl, d8, u8, k8⟩
      have B8 := B7.trans (upd_below u8 (by simp; omega) B7.size)
      clear d7 u8 k8 B7
      go_wp2_with fail
      (with_reducible refine (drvReportOver d8 0 1).mono ?_)
      rintro e w9 ⟨rfl, rfl⟩
      go_wp2_with fail
      (with_reducible refine (drvLive d8).mono ?_)
      rintro e w9 ⟨rfl, rfl⟩
      go_wp2_with fail
      (with_reducible refine (drvWhy d8).mono ?_)
      rintro e w9 ⟨rfl, rfl⟩
      go_wp2_with fail
      (with_reducible refine (HA _).out.mono ?_)
      rintro e w9 ⟨rfl, b9⟩
      go_wp2_with fail
      go_ret
      exact ⟨rfl, B8.trans (b9.mono B8.size)⟩
end Go.Proofs.Ytemcpldipjbleaa
