/- driver.New, Start, and what tells of a driver. -/
import Derived.Test.YtemcpldipjbleaaDrv2
namespace Go.Proofs.Ytemcpldipjbleaa
open Go.RowKit
attribute [local go_sem ↓] Go.wp_at_zero Go.wp_at_succ

/-- a driver's cells -/
def dc (c : Mp.Cfg) (ch : Value) (conn : Int) (live : Bool) (why at_ : Int) (way : Value) (has : Bool) : Array Value :=
  #[.int .i64 c.sessions, .int .i64 c.window, .int .i64 c.retry, .int .i64 c.base, .int .i64 c.cap, .int .i64 c.idle, ch, .int .i64 conn, .bool live, .int .i64 why, .int .i64 at_, way, .bool has]

theorem drvWithin (n : Int) (w : World) : Calls Try.prog 27 #[.int .i64 n] w fun e w' => e = .returned (.bool (Mp.within n 0 65535)) ∧ w = w' := by
  by_cases h : 0 ≤ n
  · go_enter Try.func27, Try.ntmps27
    go_wp2
    go_ret
    exact ⟨by simp [Mp.within, h], rfl⟩
  · go_enter Try.func27, Try.ntmps27
    go_wp2
    go_ret
    exact ⟨by simp [Mp.within]; omega, rfl⟩

set_option maxRecDepth 100000 in
theorem drvConn {w : World} {d : Nat} {c : Mp.Cfg} {ch : Value} {conn : Int} {live : Bool} {why at_ : Int} {way : Value} {has : Bool} (h : Blk w d 66 (dc c ch conn live why at_ way has)) :
    Calls Try.prog 11 #[.pointer (some ⟨d, 0, none⟩)] w fun e w' => e = .returned (.int .i64 conn) ∧ w = w' := by
  have c1 : w.cell? ⟨d, 7, none⟩ = some (.int .i64 conn) := h.cell 7
  go_enter Try.func11, Try.ntmps11
  go_wp2
  go_ret
  exact ⟨rfl, rfl⟩
theorem drvLive {w : World} {d : Nat} {c : Mp.Cfg} {ch : Value} {conn : Int} {live : Bool} {why at_ : Int} {way : Value} {has : Bool} (h : Blk w d 66 (dc c ch conn live why at_ way has)) :
    Calls Try.prog 12 #[.pointer (some ⟨d, 0, none⟩)] w fun e w' => e = .returned (.bool live) ∧ w = w' := by
  have c1 : w.cell? ⟨d, 8, none⟩ = some (.bool live) := h.cell 8
  go_enter Try.func12, Try.ntmps12
  go_wp2
  go_ret
  exact ⟨rfl, rfl⟩
theorem drvWhy {w : World} {d : Nat} {c : Mp.Cfg} {ch : Value} {conn : Int} {live : Bool} {why at_ : Int} {way : Value} {has : Bool} (h : Blk w d 66 (dc c ch conn live why at_ way has)) :
    Calls Try.prog 18 #[.pointer (some ⟨d, 0, none⟩)] w fun e w' => e = .returned (.int .i64 why) ∧ w = w' := by
  have c1 : w.cell? ⟨d, 9, none⟩ = some (.int .i64 why) := h.cell 9
  go_enter Try.func18, Try.ntmps18
  go_wp2
  go_ret
  exact ⟨rfl, rfl⟩
theorem drvAt {w : World} {d : Nat} {c : Mp.Cfg} {ch : Value} {conn : Int} {live : Bool} {why at_ : Int} {way : Value} {has : Bool} (h : Blk w d 66 (dc c ch conn live why at_ way has)) :
    Calls Try.prog 13 #[.pointer (some ⟨d, 0, none⟩)] w fun e w' => e = .returned (.int .i64 at_) ∧ w = w' := by
  have c1 : w.cell? ⟨d, 10, none⟩ = some (.int .i64 at_) := h.cell 10
  go_enter Try.func13, Try.ntmps13
  go_wp2
  go_ret
  exact ⟨rfl, rfl⟩

set_option maxRecDepth 100000 in
set_option maxHeartbeats 400000 in
theorem drvNewOk (c : Mp.Cfg) (h : Mp.okCfg c = true) (w : World) : Calls Try.prog 7 #[.agg (cv c)] w fun e w' => ∃ d, e = .returned (.tuple #[.pointer (some ⟨d, 0, none⟩), .int .i64 0]) ∧
    Blk w' d 66 (dc c (.pointer none) 0 false 0 (-1) (.slice none 0 0) false) ∧ Below w.heap.size w w' ∧ w.heap.size ≤ d := by
  have HC := fun W => Lib.hid (chanCheckOk c h W)
  obtain ⟨s, wi, r, b, cp, i⟩ := c
  have l0 := Blk.newAt w 29 #[.int .i64 s, .int .i64 wi, .int .i64 r, .int .i64 b, .int .i64 cp, .int .i64 i] _ rfl
  obtain ⟨k0, k1, k2, k3, k4, k5⟩ := cells6 l0
  simp only [cv] at HC ⊢
  go_enter Try.func7, Try.ntmps7
  go_wp2_with (go_at_call 25; (with_reducible refine (HC _).out.mono ?_); rintro e w1 ⟨rfl, b1⟩; obtain ⟨j0, j1, j2, j3, j4, j5⟩ := cells6 (l0.below b1 l0.lt))
  go_ret2
  have B1 : Below w.heap.size w w1 := ((Below.refl _ w).alloc (Nat.le_refl _) _).trans (b1.mono (by simp))
  exact ⟨_, rfl, Blk.newAt _ _ _ _ rfl, B1.alloc B1.size _, B1.size⟩

set_option maxRecDepth 100000 in
set_option maxHeartbeats 400000 in
theorem drvNewBad (c : Mp.Cfg) (h : Mp.within c.sessions 1 16 = false) (w : World) : Calls Try.prog 7 #[.agg (cv c)] w fun e w' => e = .returned (.tuple #[.pointer none, .int .i64 1]) ∧ Below w.heap.size w w' := by
  have HC := fun W => Lib.hid (chanCheckBad c h W)
  obtain ⟨s, wi, r, b, cp, i⟩ := c
  have l0 := Blk.newAt w 29 #[.int .i64 s, .int .i64 wi, .int .i64 r, .int .i64 b, .int .i64 cp, .int .i64 i] _ rfl
  obtain ⟨k0, k1, k2, k3, k4, k5⟩ := cells6 l0
  simp only [cv] at HC ⊢
  go_enter Try.func7, Try.ntmps7
  go_wp2_with (go_at_call 25; (with_reducible refine (HC _).out.mono ?_); rintro e w1 ⟨rfl, b1⟩)
  go_ret2
  exact ⟨rfl, ((Below.refl _ w).alloc (Nat.le_refl _) _).trans (b1.mono (by simp))⟩

/-- the message of kind 1, where it may be -/
theorem openEnc {pos dest : Int} (h1 : 0 ≤ pos) (h2 : pos ≤ 65535) (h3 : 0 ≤ dest) (h4 : dest ≤ 65535) : Mp.msgEnc ⟨1, pos, dest, [], 0, .zero⟩ = some (Mp.be 1 1 ++ (Mp.be pos 2 ++ Mp.be dest 2)) := by
  have a1 : Mp.nums 1 [1] ([], false) = (Mp.be 1 1, false) := by
    rw [Mp.nums_all rfl _ _ _ (by intro x hx; simp at hx; subst hx; exact Mp.fits1 (by omega) (by omega))]; simp
  have a2 : Mp.nums 2 [pos, dest] (Mp.be 1 1, false) = (Mp.be 1 1 ++ (Mp.be pos 2 ++ Mp.be dest 2), false) := by
    rw [Mp.nums_all rfl _ _ _ (by intro x hx; simp at hx; rcases hx with rfl | rfl <;> exact Mp.fits2 (by omega) (by omega))]; simp
  unfold Mp.msgEnc Mp.msgW
  simp only
  rw [if_pos trivial, a1, a2]
  simp

theorem set13 {w : World} {L : Nat} {T : TypeId} {a0 a1 a2 a3 a4 a5 a6 a7 a8 a9 a10 a11 a12 : Value} (h : Blk w L T #[a0, a1, a2, a3, a4, a5, a6, a7, a8, a9, a10, a11, a12]) (b0 b1 b2 b3 b4 b5 b6 b7 b8 b9 b10 b11 b12 : Value) (W : World)
    (hW : W = (((((((((((((w.setCell ⟨L, 0, none⟩ b0).setCell ⟨L, 1, none⟩ b1).setCell ⟨L, 2, none⟩ b2).setCell ⟨L, 3, none⟩ b3).setCell ⟨L, 4, none⟩ b4).setCell ⟨L, 5, none⟩ b5).setCell ⟨L, 6, none⟩ b6).setCell ⟨L, 7, none⟩ b7).setCell ⟨L, 8, none⟩ b8).setCell ⟨L, 9, none⟩ b9).setCell ⟨L, 10, none⟩ b10).setCell ⟨L, 11, none⟩ b11).setCell ⟨L, 12, none⟩ b12)) :
    Blk W L T #[b0, b1, b2, b3, b4, b5, b6, b7, b8, b9, b10, b11, b12] ∧ Upd [L] w W ∧ ∀ T2, T ≠ T2 → Keep T2 w W := by
  subst hW
  have g0 := h.setTo 0 b0 #[b0, a1, a2, a3, a4, a5, a6, a7, a8, a9, a10, a11, a12] (by simp)
  have g1 := g0.setTo 1 b1 #[b0, b1, a2, a3, a4, a5, a6, a7, a8, a9, a10, a11, a12] (by simp)
  have g2 := g1.setTo 2 b2 #[b0, b1, b2, a3, a4, a5, a6, a7, a8, a9, a10, a11, a12] (by simp)
  have g3 := g2.setTo 3 b3 #[b0, b1, b2, b3, a4, a5, a6, a7, a8, a9, a10, a11, a12] (by simp)
  have g4 := g3.setTo 4 b4 #[b0, b1, b2, b3, b4, a5, a6, a7, a8, a9, a10, a11, a12] (by simp)
  have g5 := g4.setTo 5 b5 #[b0, b1, b2, b3, b4, b5, a6, a7, a8, a9, a10, a11, a12] (by simp)
  have g6 := g5.setTo 6 b6 #[b0, b1, b2, b3, b4, b5, b6, a7, a8, a9, a10, a11, a12] (by simp)
  have g7 := g6.setTo 7 b7 #[b0, b1, b2, b3, b4, b5, b6, b7, a8, a9, a10, a11, a12] (by simp)
  have g8 := g7.setTo 8 b8 #[b0, b1, b2, b3, b4, b5, b6, b7, b8, a9, a10, a11, a12] (by simp)
  have g9 := g8.setTo 9 b9 #[b0, b1, b2, b3, b4, b5, b6, b7, b8, b9, a10, a11, a12] (by simp)
  have g10 := g9.setTo 10 b10 #[b0, b1, b2, b3, b4, b5, b6, b7, b8, b9, b10, a11, a12] (by simp)
  have g11 := g10.setTo 11 b11 #[b0, b1, b2, b3, b4, b5, b6, b7, b8, b9, b10, b11, a12] (by simp)
  have g12 := g11.setTo 12 b12 #[b0, b1, b2, b3, b4, b5, b6, b7, b8, b9, b10, b11, b12] (by simp)
  refine ⟨g12, ?_, fun T2 hT => ?_⟩
  · exact ((((((((((((((Upd.refl [L] w).setCell (.inl (by simp)) _).setCell (.inl (by simp)) _).setCell (.inl (by simp)) _).setCell (.inl (by simp)) _).setCell (.inl (by simp)) _).setCell (.inl (by simp)) _).setCell (.inl (by simp)) _).setCell (.inl (by simp)) _).setCell (.inl (by simp)) _).setCell (.inl (by simp)) _).setCell (.inl (by simp)) _).setCell (.inl (by simp)) _).setCell (.inl (by simp)) _)
  · exact ((((((((((((((Keep.refl T2 w).setCell h hT 0 _).setCell g0 hT 1 _).setCell g1 hT 2 _).setCell g2 hT 3 _).setCell g3 hT 4 _).setCell g4 hT 5 _).setCell g5 hT 6 _).setCell g6 hT 7 _).setCell g7 hT 8 _).setCell g8 hT 9 _).setCell g9 hT 10 _).setCell g10 hT 11 _).setCell g11 hT 12 _)

theorem mayNew {c : Mp.Cfg} (h : Mp.okCfg c = true) (conn : Int) : MayC (Mp.Channel.new c conn) := by
  simp only [Mp.okCfg, Bool.and_eq_true, Mp.within, decide_eq_true_eq] at h
  exact ⟨⟨⟨by simp [Mp.Channel.new]; omega, by simp [Mp.Channel.new]; omega, by simp [Mp.Channel.new]; omega, by simp [Mp.Channel.new]; omega, by simp [Mp.Channel.new]; omega, by simp [Mp.Channel.new]; omega⟩, by simp [Mp.Channel.new]; omega, by simp [Mp.Channel.new]; omega, by simp [Mp.Channel.new], by simp [Mp.Channel.new], by simp [Mp.Channel.new], by simp [Mp.Channel.new], by simp [Mp.Channel.new]⟩, by simp [Mp.Channel.new]⟩

set_option maxRecDepth 100000 in
set_option maxHeartbeats 1000000 in
theorem drvStart {w : World} {d : Nat} {c : Mp.Cfg} {ch : Value} {conn : Int} {live : Bool} {why at0 : Int} {way : Value} {has : Bool} (h : Blk w d 66 (dc c ch conn live why at0 way has)) (hc : Mp.okCfg c = true) (h1 : 0 ≤ conn) (h2 : conn < 2147483648)
    (now : Int) (n0 : 0 ≤ now) (n1 : now ≤ 1099511627776) (at_ node : Int) (a0 : 0 ≤ at_) (a1 : at_ ≤ 65535) (b0 : 0 ≤ node) (b1 : node ≤ 65535) (l : Mp.Bytes) (hl : Mp.msgEnc ⟨1, at_, node, [], 0, .zero⟩ = some l) :
    Calls Try.prog 10 #[.pointer (some ⟨d, 0, none⟩), .int .i64 now, .int .i64 at_, .int .i64 node] w fun e w' => ∃ A n x O cap vs, e = .returned (.tuple #[.slice A (encs ((Mp.Channel.new c (conn + 1)).push now l).1).length n, .int .i64 0]) ∧
      Blk w' d 66 (dc c (.pointer (some ⟨x.ch, 0, none⟩)) (conn + 1) true 0 at_ (.slice none 0 0) false) ∧ OwnS w' 36 1 A (encs ((Mp.Channel.new c (conn + 1)).push now l).1).length n vs ∧ IsBs w' vs (encs ((Mp.Channel.new c (conn + 1)).push now l).1) ∧
      (∀ k, k ∈ fp A n → w.heap.size ≤ k ∧ k ∉ fp O cap) ∧ IsC w' x O cap ((Mp.Channel.new c (conn + 1)).push now l).2.2 ∧ (∀ k, k ∈ [x.ch, x.sn, x.ti, x.tm, x.sm, x.tk, x.km] ++ fp O cap → w.heap.size ≤ k) ∧ Upd [d] w w' ∧ Keep 5 w w' ∧ MayC ((Mp.Channel.new c (conn + 1)).push now l).2.2 := by
  have hwa : Mp.within at_ 0 65535 = true := by simp [Mp.within, a0, a1]
  have hwn : Mp.within node 0 65535 = true := by simp [Mp.within, b0, b1]
  have HC := fun W => Lib.hid (chanNew c hc (conn + 1) (by omega) (by omega) W)
  obtain ⟨s, wi, r, b, cp, i⟩ := c
  simp only [cv] at HC
  simp only [dc] at h
  have e0 : w.cell? ⟨d, 0, none⟩ = some (.int .i64 s) := h.cell 0
  have e1 : w.cell? ⟨d, 1, none⟩ = some (.int .i64 wi) := h.cell 1
  have e2 : w.cell? ⟨d, 2, none⟩ = some (.int .i64 r) := h.cell 2
  have e3 : w.cell? ⟨d, 3, none⟩ = some (.int .i64 b) := h.cell 3
  have e4 : w.cell? ⟨d, 4, none⟩ = some (.int .i64 cp) := h.cell 4
  have e5 : w.cell? ⟨d, 5, none⟩ = some (.int .i64 i) := h.cell 5
  have e7 : w.cell? ⟨d, 7, none⟩ = some (.int .i64 conn) := h.cell 7
  have hwr : IntKind.i64.wrap (conn + 1) = conn + 1 := IntWalk.i64_in _ (by omega)
  have hcw : wrap64 (conn + 1) = conn + 1 := IntWalk.wrap64_in _ ⟨by omega, by omega⟩
  go_enter Try.func10, Try.ntmps10
  go_wp2_with (go_at_call 27; (with_reducible refine (drvWithin _ _).mono ?_); rintro e w1 ⟨rfl, rfl⟩; (first | rw [hwa] | rw [hwn]))
  go_region_with (go_at_call 28; (with_reducible refine (HC _).out.mono ?_); rintro e w1 ⟨x, O, cap, rfl, ic, bc, fc⟩)
  all_goals
    have q1 := h.drew.below bc h.lt
    have fz : ∀ i, w1.frozen? ⟨d, i, none⟩ = false := fun i => q1.frozen i
    have hzs := bc.size
    have q0 : w1.cell? ⟨d, 0, none⟩ = some (.int .i64 s) := q1.cell 0
    have q01 : w1.cell? ⟨d, 1, none⟩ = some (.int .i64 wi) := q1.cell 1
    have q02 : w1.cell? ⟨d, 2, none⟩ = some (.int .i64 r) := q1.cell 2
    have q03 : w1.cell? ⟨d, 3, none⟩ = some (.int .i64 b) := q1.cell 3
    have q04 : w1.cell? ⟨d, 4, none⟩ = some (.int .i64 cp) := q1.cell 4
    have q05 : w1.cell? ⟨d, 5, none⟩ = some (.int .i64 i) := q1.cell 5
    have q06 : w1.cell? ⟨d, 6, none⟩ = some ch := q1.cell 6
    have q07 : w1.cell? ⟨d, 7, none⟩ = some (.int .i64 conn) := q1.cell 7
    have q08 : w1.cell? ⟨d, 8, none⟩ = some (.bool live) := q1.cell 8
    have q09 : w1.cell? ⟨d, 9, none⟩ = some (.int .i64 why) := q1.cell 9
    have q10 : w1.cell? ⟨d, 10, none⟩ = some (.int .i64 at0) := q1.cell 10
    have q11 : w1.cell? ⟨d, 11, none⟩ = some way := q1.cell 11
    have q12 : w1.cell? ⟨d, 12, none⟩ = some (.bool has) := q1.cell 12
    go_wp2_with fail
    go_region
    obtain ⟨g1, g2, g3⟩ := set13 q1 (.int .i64 s) (.int .i64 wi) (.int .i64 r) (.int .i64 b) (.int .i64 cp) (.int .i64 i) (.pointer (some ⟨x.ch, 0, none⟩)) (.int .i64 (conn + 1)) (.bool true) (.int .i64 0) (.int .i64 at_) (.slice none 0 0) (.bool false) _ rfl
    have hdw := h.lt
    have hfc : ∀ k, k ∈ [x.ch, x.sn, x.ti, x.tm, x.sm, x.tk, x.km] ++ fp O cap → w.heap.size ≤ k := fc
    have hnd : ∀ k, k ∈ [x.ch, x.sn, x.ti, x.tm, x.sm, x.tk, x.km] ++ fp O cap → k ∉ [d] := fun k hk e => by have := hfc k hk; simp at e; omega
    have ic2 := (ic.upd g2 (g3 _ (by decide)) (hnd _ (by simp)) (hnd _ (by simp)) (hnd _ (by simp)) (hnd _ (by simp)) (hnd _ (by simp)) (hnd _ (by simp)) (hnd _ (by simp)) (fun k hk => hnd k (by simp only [List.mem_append]; exact .inr hk))).below (Below.refl _ _).drew
    have u1 : Upd [d] w w1 := (Upd.refl [d] w).drew.below bc
    have u2 := (u1.trans g2 (fun k hk => .inl hk)).drew
    have kk2 := ((((Keep.refl 5 w).drew.trans (Keep.of_below bc))).trans (g3 5 (by decide))).drew
    have g1' := g1.drew
    have hz2 := u2.size
    generalize (World.drew _) = W at ic2 u2 kk2 g1' hz2 ⊢
    have m6 : W.cell? ⟨d, 6, none⟩ = some (.pointer (some ⟨x.ch, 0, none⟩)) := g1'.cell 6
    have HPu := Lib.hid (drvPush m6 g1'.lt ic2 (mayNew hc (conn + 1)) rfl (by simp [Mp.Channel.new]) (by simp [Mp.Channel.new]) now n0 n1 1 at_ node l (writesKind1 _ _ _ _ _) hl)
    clear g1 g2 g3 q1 fz q0 q01 q02 q03 q04 q05 q06 q07 q08 q09 q10 q11 q12 u1
    go_wp2_with (go_at_call 29; (with_reducible refine HPu.out.mono ?_); rintro e w3 ⟨A, n, rfl, vs, O', cap', r1, r2, r3, r4, r5, r6, r7, r8⟩)
    go_ret2
    have hdn : d ∉ [x.ch, x.sn, x.tm, x.sm] ++ fp O cap := fun hd => by
      have := hfc d (by simp only [List.mem_append] at hd ⊢; rcases hd with hd | hd; exact .inl (by simp at hd ⊢; omega); exact .inr hd)
      omega
    refine ⟨A, n, x, O', cap', vs, rfl, r6.blk g1' hdn, r1, r2, fun k hk => ⟨Nat.le_trans hz2 (r3 k hk).1, (r3 k hk).2⟩, r4, fun k hk => ?_, ?_, kk2.trans r7, r8⟩
    · have hk : k ∈ [x.ch, x.sn, x.ti, x.tm, x.sm, x.tk, x.km] ++ fp O' cap' := hk
      rcases List.mem_append.1 hk with hk | hk
      · exact hfc k (by simp only [List.mem_append]; exact .inl hk)
      · rcases r5 k hk with h1 | h1
        · exact hfc k (by simp only [List.mem_append]; exact .inr h1)
        · omega
    · exact u2.trans r6 (fun k hk => .inr (hfc k (by simp only [List.mem_append] at hk ⊢; rcases hk with hd | hd; exact .inl (by simp at hd ⊢; omega); exact .inr hd)))
end Go.Proofs.Ytemcpldipjbleaa
