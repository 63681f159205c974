/- milepostlaw31.awake answers true. -/
import Derived.Test.YtemcpldipjbleaaDrv5
import Derived.Test.YtemcpldipjbleaaRefG
namespace Go.Proofs.Ytemcpldipjbleaa
open Go.RowKit
attribute [local go_sem ↓] Go.wp_at_zero Go.wp_at_succ

set_option maxRecDepth 100000 in
set_option maxHeartbeats 1000000 in
theorem lawAwake (w : World) : Calls Try.prog 6 #[] w fun e w' => e = .returned (.bool true) ∧ Below w.heap.size w w' := by
  have hc : Mp.okCfg ⟨1, 4, 0, 3, 3, 5⟩ = true := rfl
  have HN1 := fun W => Lib.hid (drvNewOk ⟨1, 4, 0, 3, 3, 5⟩ hc W)
  have HN2 := fun W => Lib.hid (drvNewBad ⟨0, 0, 0, 0, 0, 0⟩ rfl W)
  simp only [cv] at HN1 HN2
  obtain ⟨l, hl⟩ : ∃ l, Mp.msgEnc ⟨1, 1, 2, [], 0, .zero⟩ = some l := ⟨_, openEnc (by decide) (by decide) (by decide) (by decide)⟩
  have hpn := push_new hc 1 0 l
  have hll := msgEnc_length hl
  simp only [List.length_nil] at hll
  have hel : (encs ((Mp.Channel.new ⟨1, 4, 0, 3, 3, 5⟩ 1).push 0 l).1).length = 1 := by rw [hpn]; rfl
  obtain ⟨r, hr⟩ := Mp.gramEnc_reset (conn := 1) (code := 1) (by decide) (by decide) (by decide) (by decide)
  have hrd : Mp.gramDec r = some ⟨1, 3, 0, 0, 1, []⟩ := Mp.gramDec_enc hr
  have hrl := gramEnc_length hr
  have HG := fun W => refGram ⟨1, 3, 0, 0, 1, []⟩ none 0 W (Seg.nil _ _ _) (by simp)
  simp only [hr, gv, List.length_nil] at HG
  have HG := fun W => Lib.hid (HG W)
  have HEL := Lib.hid hel
  clear hpn hel hr
  have B0 : Below w.heap.size w (w.alloc (.cells #[.int .i64 1, .int .i64 4, .int .i64 0, .int .i64 3, .int .i64 3, .int .i64 5] 29)) := (Below.refl _ w).alloc (Nat.le_refl _) _
  go_enter Try.func6, Try.ntmps6
  go_wp2_with fail
  (with_reducible refine (HN1 _).out.mono ?_)
  rintro e w1 ⟨d, rfl, d1, b1, hd⟩
  have B1 := B0.trans (b1.mono (by simp))
  have hdw : w.heap.size ≤ d := by simp at hd; omega
  clear B0 b1 hd
  go_wp2_with fail
  (with_reducible refine (HN2 _).out.mono ?_)
  rintro e w2 ⟨rfl, b2⟩
  have d2 := d1.below b2 d1.lt
  have B2 := B1.trans (b2.mono B1.size)
  clear d1 b2 B1
  go_wp2_with fail
  (with_reducible refine (drvFollowOver d2 0).mono ?_)
  rintro e w3 ⟨rfl, rfl⟩
  go_wp2_with fail
  (with_reducible refine (drvStart d2 hc (by omega) (by omega) 0 (by omega) (by omega) 1 2 (by omega) (by omega) (by omega) (by omega) l hl).mono ?_)
  rintro e w4 ⟨A, n, x, O, cap, vs, rfl, d4, o4, v4, f4, ic4, fc4, u4, k4, mc4⟩
  rw [show (0 : Int) + 1 = 1 from rfl] at d4 ⊢
  rw [HEL.out]
  have B4 := B2.trans (upd_below u4 (by simp; omega) B2.size)
  clear o4 v4 f4 ic4 fc4 u4 k4 mc4 d2 B2
  go_wp2_with fail
  (with_reducible refine (drvStartLow d 0 2 w4).mono ?_)
  rintro e w5 ⟨rfl, rfl⟩
  go_wp2_with fail
  (with_reducible refine (HG _).out.mono ?_)
  rintro e w6 ⟨b6, A6, c6, rfl, o6, f6⟩
  have d6 := d4.below b6 d4.lt
  have B6 := B4.trans (b6.mono B4.size)
  clear d4 b6 B4
  go_wp2_with fail
  (with_reducible refine (drvLive d6).mono ?_)
  rintro e w7 ⟨rfl, rfl⟩
  go_wp2_with fail
  (with_reducible refine (drvRecvReset d6 1 A6 r c6 o6.seg o6.le (by omega) 1 0 0 [] hrd).mono ?_)
  rintro e w8 ⟨rfl, d8, u8, k8⟩
  have B8 := B6.trans (upd_below u8 (by simp; omega) B6.size)
  clear d6 u8 k8 B6
  go_wp2_with fail
  (with_reducible refine (drvStartNil 0 0 0 w8).mono ?_)
  rintro e w9 ⟨rfl, rfl⟩
  go_wp2_with fail
  (with_reducible refine (drvLive d8).mono ?_)
  rintro e w9 ⟨rfl, rfl⟩
  go_wp2_with fail
  (with_reducible refine (drvWhy d8).mono ?_)
  rintro e w9 ⟨rfl, rfl⟩
  go_wp2_with fail
  (with_reducible refine (drvConn d8).mono ?_)
  rintro e w9 ⟨rfl, rfl⟩
  go_wp2_with fail
  (with_reducible refine (drvAt d8).mono ?_)
  rintro e w9 ⟨rfl, rfl⟩
  go_wp2_with fail
  (with_reducible refine (drvAtNil w8).mono ?_)
  rintro e w9 ⟨rfl, rfl⟩
  go_wp2_with fail
  (with_reducible refine (drvLiveNil w8).mono ?_)
  rintro e w9 ⟨rfl, rfl⟩
  go_wp2_with fail
  go_ret
  exact ⟨rfl, B8⟩
end Go.Proofs.Ytemcpldipjbleaa
