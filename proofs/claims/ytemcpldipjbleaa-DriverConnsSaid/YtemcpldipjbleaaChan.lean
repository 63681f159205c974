/- channel: within, Check, New, over, data; sender.Body. -/
import Derived.Test.YtemcpldipjbleaaSnd
import Derived.Test.YtemcpldipjbleaaGramD
namespace Go.Proofs.Ytemcpldipjbleaa
open Go.RowKit

def cv (c : Mp.Cfg) : Array Value := #[.int .i64 c.sessions, .int .i64 c.window, .int .i64 c.retry, .int .i64 c.base, .int .i64 c.cap, .int .i64 c.idle]

theorem chanWithin (n a b : Int) (w : World) : Calls Try.prog 44 #[.int .i64 n, .int .i64 a, .int .i64 b] w fun e w' => e = .returned (.bool (Mp.within n a b)) ∧ w = w' := by
  by_cases h : a ≤ n
  · go_enter Try.func44, Try.ntmps44
    go_wp2
    go_ret
    exact ⟨by simp [Mp.within, h], rfl⟩
  · go_enter Try.func44, Try.ntmps44
    go_wp2
    go_ret
    exact ⟨by simp [Mp.within]; omega, rfl⟩

set_option maxRecDepth 100000 in
set_option maxHeartbeats 400000 in
theorem chanCheckOk (c : Mp.Cfg) (h : Mp.okCfg c = true) (w : World) : Calls Try.prog 25 #[.agg (cv c)] w fun e w' => e = .returned (.int .i64 0) ∧ Below w.heap.size w w' := by
  obtain ⟨s, wi, r, b, cp, i⟩ := c
  simp only [Mp.okCfg, Bool.and_eq_true] at h
  obtain ⟨⟨⟨⟨⟨h1, h2⟩, h3⟩, h4⟩, h5⟩, h6⟩ := h
  obtain ⟨k0, k1, k2, k3, k4, k5⟩ := cells6 (Blk.newAt w 29 #[.int .i64 s, .int .i64 wi, .int .i64 r, .int .i64 b, .int .i64 cp, .int .i64 i] _ rfl)
  simp only [cv]
  go_enter Try.func25, Try.ntmps25
  go_wp2_with (go_at_call 44; (with_reducible refine (chanWithin _ _ _ _).mono ?_); rintro e w1 ⟨rfl, rfl⟩; (first | rw [h1] | rw [h2] | rw [h3] | rw [h4] | rw [h5] | rw [h6]))
  go_ret
  exact ⟨rfl, (Below.refl _ w).alloc (Nat.le_refl _) _⟩

set_option maxRecDepth 100000 in
set_option maxHeartbeats 400000 in
theorem chanCheckBad (c : Mp.Cfg) (h : Mp.within c.sessions 1 16 = false) (w : World) : Calls Try.prog 25 #[.agg (cv c)] w fun e w' => e = .returned (.int .i64 1) ∧ Below w.heap.size w w' := by
  obtain ⟨s, wi, r, b, cp, i⟩ := c
  simp only at h
  obtain ⟨k0, k1, k2, k3, k4, k5⟩ := cells6 (Blk.newAt w 29 #[.int .i64 s, .int .i64 wi, .int .i64 r, .int .i64 b, .int .i64 cp, .int .i64 i] _ rfl)
  simp only [cv]
  go_enter Try.func25, Try.ntmps25
  go_wp2_with (go_at_call 44; (with_reducible refine (chanWithin _ _ _ _).mono ?_); rintro e w1 ⟨rfl, rfl⟩; rw [h])
  go_ret
  exact ⟨rfl, (Below.refl _ w).alloc (Nat.le_refl _) _⟩

/-- the blocks of a channel -/
structure Chs where
  ch : Nat
  sn : Nat
  ti : Nat
  tm : Nat
  sm : Nat
  tk : Nat
  km : Nat

/-- what came ahead of its turn: a map's entries in whatever order -/
def Held (w : World) (es : List (Int × Value)) (l : List (Int × Mp.Bytes)) : Prop :=
  ∀ n, (lookI es n = none ∧ Mp.look l n = none) ∨ ∃ v b, lookI es n = some v ∧ Mp.look l n = some b ∧ IsB w v b
theorem Held.keep {w w' : World} {es : List (Int × Value)} {l : List (Int × Mp.Bytes)} (h : Held w es l) (hk : Keep 5 w w') : Held w' es l := fun n => (h n).imp id fun ⟨v, b, h1, h2, h3⟩ => ⟨v, b, h1, h2, h3.keep hk⟩

/-- a channel, in the blocks x; its bodies that are owed stand at O -/
structure IsC (w : World) (x : Chs) (O : Option Addr) (cap : Nat) (C : Mp.Channel) : Prop where
  blk : Blk w x.ch 105 #[.pointer (some ⟨x.sn, 0, none⟩), .int .i64 C.conn, .pointer (some ⟨x.tk, 0, none⟩), .slice O C.owed.length cap]
  snd : IsS w x.sn x.ti x.tm x.sm C.s
  tak : Blk w x.tk 130 #[.int .i64 C.t.window, .int .i64 C.t.next, .map (some x.km)]
  tmap : ∃ es, MapI w x.km es ∧ Held w es C.t.l
  n1 : x.km ≠ x.sm
  n2 : x.km ≠ x.tm
  owd : ∃ vs, OwnS w 36 1 O C.owed.length cap vs ∧ IsBs w vs C.owed

theorem IsC.upd {w w' : World} {x : Chs} {O : Option Addr} {cap : Nat} {C : Mp.Channel} {F : List Nat} (h : IsC w x O cap C) (hu : Upd F w w') (hk : Keep 5 w w') (h1 : x.ch ∉ F) (h2 : x.sn ∉ F) (h3 : x.ti ∉ F) (h4 : x.tm ∉ F) (h5 : x.sm ∉ F) (h6 : x.tk ∉ F) (h7 : x.km ∉ F) (h8 : ∀ k, k ∈ fp O cap → k ∉ F) : IsC w' x O cap C := by
  obtain ⟨es, m1, m2⟩ := h.tmap
  obtain ⟨vs, o1, o2⟩ := h.owd
  exact ⟨hu.blk h.blk h1, h.snd.upd hu hk h2 h3 h4 h5, hu.blk h.tak h6, ⟨es, m1.upd hu h7, m2.keep hk⟩, h.n1, h.n2, ⟨vs, o1.upd hu h8, o2.keep hk⟩⟩
theorem IsC.below {w w' : World} {x : Chs} {O : Option Addr} {cap : Nat} {C : Mp.Channel} (h : IsC w x O cap C) (hb : Below w.heap.size w w') : IsC w' x O cap C :=
  h.upd (Upd.of_below hb []) (Keep.of_below hb) (by simp) (by simp) (by simp) (by simp) (by simp) (by simp) (by simp) (by simp)

set_option maxRecDepth 100000 in
set_option maxHeartbeats 400000 in
theorem chanNew (c : Mp.Cfg) (h : Mp.okCfg c = true) (conn : Int) (h1 : 1 ≤ conn) (h2 : conn ≤ 2147483648) (w : World) : Calls Try.prog 28 #[.agg (cv c), .int .i64 conn] w fun e w' => ∃ x O cap,
    e = .returned (.tuple #[.pointer (some ⟨x.ch, 0, none⟩), .int .i64 0]) ∧ IsC w' x O cap (Mp.Channel.new c conn) ∧ Below w.heap.size w w' ∧ (∀ k, k ∈ [x.ch, x.sn, x.ti, x.tm, x.sm, x.tk, x.km] ++ fp O cap → w.heap.size ≤ k) := by
  have hcw : Mp.within conn 1 2147483648 = true := by simp [Mp.within, h1, h2]
  have hc := h
  simp only [Mp.okCfg, Bool.and_eq_true] at hc
  obtain ⟨⟨⟨⟨⟨h1, h2⟩, h3⟩, h4⟩, h5⟩, h6⟩ := hc
  have hok := fun W => Lib.hid (chanCheckOk c h W)
  obtain ⟨s, wi, r, b, cp, i⟩ := c
  simp only [Mp.within, Bool.and_eq_true, decide_eq_true_eq] at h1 h2 h3 h4 h5 h6
  have l0 := Blk.newAt w 29 #[.int .i64 s, .int .i64 wi, .int .i64 r, .int .i64 b, .int .i64 cp, .int .i64 i] _ rfl
  obtain ⟨k0, k1, k2, k3, k4, k5⟩ := cells6 l0
  simp only [cv] at hok ⊢
  go_enter Try.func28, Try.ntmps28
  go_wp2_with (go_at_call 25; (with_reducible refine (hok _).out.mono ?_); rintro e w1 ⟨rfl, b1⟩)
  have l1 := l0.below b1 l0.lt
  obtain ⟨j0, j1, j2, j3, j4, j5⟩ := cells6 l1
  refine (chanWithin _ _ _ _).mono ?_
  rintro e w1' ⟨rfl, rfl⟩
  rw [hcw]
  have B1 : Below w.heap.size w w1 := ((Below.refl _ w).alloc (Nat.le_refl _) _).trans (b1.mono (by simp))
  go_wp2_with fail
  refine (timerNew w1 b cp r ⟨by simp; omega, by simp; omega, by simp; omega, by simp; omega, by simp; omega, by simp; omega⟩).mono ?_
  rintro e w2 ⟨ti, tm, rfl, t2, b2, g2, m2⟩
  have l2 := l1.below b2 l1.lt
  obtain ⟨i0, i1, i2, i3, i4, i5⟩ := cells6 l2
  have B2 := B1.trans (b2.mono B1.size)
  go_wp2_with fail
  refine (senderNew w2 ti wi (by omega) (by omega)).mono ?_
  rintro e w3 ⟨sn, sm, rfl, s3, sm3, b3, g3, m3⟩
  have l3 := l2.below b3 l2.lt
  obtain ⟨u0, u1, u2, u3, u4, u5⟩ := cells6 l3
  have B3 := B2.trans (b3.mono B2.size)
  go_wp2_with fail
  refine (takerNew w3 wi (by omega) (by omega)).mono ?_
  rintro e w4 ⟨tk, km, rfl, s4, km4, b4, g4, m4⟩
  have B4 := B3.trans (b4.mono B3.size)
  have z1 := B1.size
  have z2 := b2.size
  have z3 := b3.size
  have z4 := b4.size
  have y1 := t2.map.lt
  have y2 := sm3.lt
  have t3 := t2.upd (Upd.of_below b3 []) (by simp) (by simp)
  go_wp2
  go_ret2
  have ba := (Below.refl w4.heap.size w4).alloc (Nat.le_refl _) (.cells #[.pointer (some ⟨sn, 0, none⟩), .int .i64 conn, .pointer (some ⟨tk, 0, none⟩), .slice none 0 0] 105)
  refine ⟨⟨w4.heap.size, sn, ti, tm, sm, tk, km⟩, none, 0, rfl, ⟨Blk.newAt _ _ _ _ rfl, ⟨?_, ?_, ⟨[], ?_, trivial⟩, by simp only; omega⟩, ?_, ⟨[], ?_, fun n => .inl ⟨rfl, rfl⟩⟩, by simp only; omega, by simp only; omega, ⟨[], OwnS.nil _ _ _ _, trivial⟩⟩, B4.alloc B4.size _, ?_⟩
  · exact (s3.below b4 s3.lt).below ba (s3.below b4 s3.lt).lt
  · exact (t3.upd (Upd.of_below b4 []) (by simp) (by simp)).upd (Upd.of_below ba []) (by simp) (by simp)
  · exact (sm3.below b4).below ba
  · exact s4.below ba s4.lt
  · exact km4.below ba
  · intro k hk
    simp [fp] at hk
    omega

theorem chanOver {w : World} {x : Chs} {O : Option Addr} {cap : Nat} {C : Mp.Channel} (h : IsC w x O cap C) :
    Calls Try.prog 60 #[.pointer (some ⟨x.ch, 0, none⟩)] w fun e w' => e = .returned (.bool C.s.over) ∧ w = w' := by
  have c0 : w.cell? ⟨x.ch, 0, none⟩ = some (.pointer (some ⟨x.sn, 0, none⟩)) := h.blk.cell 0
  have HO := Lib.hid (senderOver h.snd.blk)
  go_enter Try.func60, Try.ntmps60
  go_wp2_with (go_at_call 75; (with_reducible refine HO.out.mono ?_); rintro e w1 ⟨rfl, rfl⟩)
  go_ret
  exact ⟨rfl, rfl⟩

-- a body is handed back in memory of its own; where there is none, none
set_option maxRecDepth 100000 in
set_option maxHeartbeats 400000 in
theorem senderBody {w : World} {g ti tm sm : Nat} {S : Mp.Sender} (h : IsS w g ti tm sm S) (seq : Int) :
    Calls Try.prog 80 #[.pointer (some ⟨g, 0, none⟩), .int .i64 seq] w fun e w' => ∃ A c, e = .returned (.tuple #[.slice A (S.body seq).length c, .bool (Mp.look S.l seq).isSome]) ∧
      OwnS w' 5 1 A (S.body seq).length c (bv (S.body seq)) ∧ (S.body seq).length ≤ 35184372088832 ∧ Below w.heap.size w w' ∧ ∀ k, k ∈ fp A c → w.heap.size ≤ k := by
  have c3 : w.cell? ⟨g, 3, none⟩ = some (.map (some sm)) := h.blk.cell 3
  obtain ⟨es, m1, m2⟩ := h.map
  have hz : (zeroValue 36).run Try.prog w = .ok (.slice none 0 0) w := by rfl
  have hlk := m1.look (P := Try.prog) Try.underlying126 Try.underlying3 hz seq true
  have hb := m2.look seq
  have hbody : S.body seq = (Mp.look S.l seq).getD [] := rfl
  rcases hb with ⟨e1, e2⟩ | ⟨v, b, e1, e2, hl, A, c, rfl, hc, hs⟩
  · rw [hbody, e2]
    rw [e1] at hlk
    simp at hlk
    have HC := Lib.hid (cloneB none 0 0 [] w rfl (Seg.nil _ _ _) (by simp) (by simp))
    go_enter Try.func80, Try.ntmps80
    go_wp2_with (go_at_call 69; (with_reducible refine HC.out.mono ?_); rintro e w1 ⟨A', c', rfl, ho, hb, hf⟩)
    go_ret2
    exact ⟨A', c', rfl, ho, by simp, hb, hf⟩
  · rw [hbody, e2]
    rw [e1] at hlk
    simp at hlk
    have HC := Lib.hid (cloneB A b.length c (bv b) w (bv_length b) hs (bv_one b) (by omega))
    go_enter Try.func80, Try.ntmps80
    go_wp2_with (go_at_call 69; (with_reducible refine HC.out.mono ?_); rintro e w1 ⟨A', c', rfl, ho, hb, hf⟩)
    go_ret2
    exact ⟨A', c', rfl, ho, hl, hb, hf⟩
end Go.Proofs.Ytemcpldipjbleaa
