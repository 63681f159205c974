/- gram.Encode. -/
import Derived.Test.YtemcpldipjbleaaFrameR
import Derived.Deep.RegionHeld3
import Derived.Deep.DrawnRows
namespace Go.Proofs.Ytemcpldipjbleaa
open Go.RowKit

/-- a datagram's fields, as cells -/
def gv (g : Mp.Gram) (A : Option Addr) (c : Nat) : Array Value := #[.int .i64 g.conn, .int .i64 g.kind, .int .i64 g.seq, .int .i64 g.ack, .int .i64 g.code, .slice A g.body.length c]

theorem cells6 {w : World} {g : Nat} {T : TypeId} {a b c d e f : Value} (h : Blk w g T #[a, b, c, d, e, f]) :
    w.cell? ⟨g, 0, none⟩ = some a ∧ w.cell? ⟨g, 1, none⟩ = some b ∧ w.cell? ⟨g, 2, none⟩ = some c ∧ w.cell? ⟨g, 3, none⟩ = some d ∧ w.cell? ⟨g, 4, none⟩ = some e ∧ w.cell? ⟨g, 5, none⟩ = some f :=
  ⟨h.cell 0, h.cell 1, h.cell 2, h.cell 3, h.cell 4, h.cell 5⟩

attribute [local go_sem ↓] Go.wp_at_zero Go.wp_at_succ
set_option maxRecDepth 100000 in
set_option maxHeartbeats 400000 in
theorem gramEnc1 (conn seq ack code : Int) (body : Mp.Bytes) (A : Option Addr) (c : Nat) (w : World) (hs : Seg w 5 A (bv body)) (hb : body.length ≤ 35184372088832) :
    Calls Try.prog 58 #[.agg #[.int .i64 conn, .int .i64 1, .int .i64 seq, .int .i64 ack, .int .i64 code, .slice A body.length c]] w (RetB w (Mp.gramEnc ⟨conn, 1, seq, ack, code, body⟩)) := by
  go_enter Try.func58, Try.ntmps58
  go_wp2_with fail
  (with_reducible refine (wNums (IsW.alloc (IsW.newAt _ (w.heap.size + 1) ?_) _) 4 (by omega) (by omega) _ [conn] 1 1 rfl ?_ (by simp)).mono ?_)
  · simp
  · exact Seg.newAt _ _ (iv [conn]) _ (by simp)
  rintro e w1 ⟨rfl, hw1, hb1⟩
  generalize hs1 : Mp.nums 4 [conn] ([], false) = s1 at hw1
  have hl1 : s1.1.length ≤ 7 := by have := Mp.nums_length 4 [conn] ([], false); rw [hs1] at this; simpa using this
  have H1 := Lib.hid hs1
  clear hs1
  have e1 := ((((Blk.newAt w 38 #[.int .i64 conn, .int .i64 1, .int .i64 seq, .int .i64 ack, .int .i64 code, .slice A body.length c] _ rfl).alloc _).alloc _).below hb1 (by omega))
  obtain ⟨_, k1, k2, k3, _, k5⟩ := cells6 e1
  have b1 : Below w.heap.size w w1 := (((((Below.refl _ w).alloc (Nat.le_refl _) _).alloc (by simp) _).alloc (by simp; omega) _).trans (hb1.mono (by omega)))
  have hz := e1.lt
  clear hb1
  have hS : ∀ W', Below (w.heap.size + 1) w1 W' → W'.cell? ⟨w.heap.size, 2, none⟩ = some (.int .i64 seq) ∧ W'.cell? ⟨w.heap.size, 3, none⟩ = some (.int .i64 ack) ∧ W'.cell? ⟨w.heap.size, 5, none⟩ = some (.slice A body.length c) := fun W' hb => by
    obtain ⟨_, _, q2, q3, _, q5⟩ := cells6 (e1.below hb (by omega))
    exact ⟨q2, q3, q5⟩
  have hsz := b1.size
  have HS := Lib.hid hS
  clear hS
  have hW := hw1.lt
  go_wp2_with fail
  go_region_held3 (fun W' => W'.cell? ⟨w.heap.size, 2, none⟩ = some (.int .i64 seq) ∧ W'.cell? ⟨w.heap.size, 3, none⟩ = some (.int .i64 ack) ∧ W'.cell? ⟨w.heap.size, 5, none⟩ = some (.slice A body.length c))
    (first | go_keep | exact q2 | exact q3)
    (first
      | (go_at_call 72; (with_reducible refine (wNums ((IsW.alloc hw1 _).drew) 4 (by omega) (by omega) _ [seq, ack] 2 2 rfl ?_ (by simp; omega)).mono ?_); (exact (Seg.newAt _ _ (iv [seq, ack]) _ rfl)); rintro e w2 ⟨rfl, hw2, hb2⟩; have b2 : Below (w.heap.size + 1) w1 w2 := (((Below.refl _ w1).alloc (by omega) _).drew).trans hb2; have q2 := HS.out w2 b2)
      | (go_at_call 73; (with_reducible refine (wRaw hw2 A body c (hs.below (b1.trans (b2.mono (by omega)))) (by have := Mp.nums_length 4 [seq, ack] s1; simp at this; omega)).mono ?_); rintro e w3 ⟨rfl, hw3, hb3⟩; have b3 : Below (w.heap.size + 1) w1 w3 := b2.trans hb3; have q3 := HS.out w3 b3))
  all_goals
    obtain ⟨t, ht⟩ : ∃ t, t = Mp.gramIn ⟨conn, 1, seq, ack, code, body⟩ := ⟨_, rfl⟩
    have hr : Mp.gramEnc ⟨conn, 1, seq, ack, code, body⟩ = if t.2 then none else Mp.wrap 1 t.1 := by rw [ht]; simp [Mp.gramEnc]
    have hw3' : IsW w3 (w.heap.size + 1) (w.heap.size + 1) t := by rw [ht, Mp.gramIn, H1.out]; exact hw3
    have hlt : t.1.length ≤ 70368744177664 := by
      have := Mp.nums_length 4 [seq, ack] s1
      rw [ht, Mp.gramIn, H1.out]
      simp at this ⊢
      omega
    have hR : RetB w (Mp.gramEnc ⟨conn, 1, seq, ack, code, body⟩) = RetB w (if t.2 then none else Mp.wrap 1 t.1) := by rw [hr]
    have HR := Lib.hid hR
    have hz3 := (e1.below b3 (by omega)).lt
    clear hR
    have b3' : Below w.heap.size w w3 := b1.trans (b3.mono (by omega))
    obtain ⟨_, m1, _, _, _, _⟩ := cells6 (e1.below b3 (by omega))
    clear hr ht hw3 q3 q2 hb3
    obtain ⟨t1, sp⟩ := t
    cases sp
    · go_wp2_with fail
      refine (wBytes hw3' hlt).mono ?_
      rintro e w4 ⟨A4, c4, rfl, ho4, hb4, hf4⟩
      have m4 : w4.cell? ⟨w.heap.size, 1, none⟩ = some (.int .i64 1) := (hb4.cell (hz3)).trans m1
      have b4 := b3'.trans (hb4.mono b3'.size)
      go_wp2_with fail
      refine (frameWrap 1 A4 t1 c4 w4 ho4.seg (by omega) (by omega) hlt).mono ?_
      rintro e w5 h5
      obtain ⟨A5, n5, c5, k5, rfl, h6⟩ := (RetB.mono b4 h5).form
      go_wp2
      go_ret2
      rw [HR.out]
      exact h6
    · go_wp2_with fail
      refine (wBytes hw3' hlt).mono ?_
      rintro e w4 ⟨rfl, rfl⟩
      go_wp2
      go_ret2
      rw [HR.out]
      exact ⟨b3', rfl⟩
set_option maxRecDepth 100000 in
set_option maxHeartbeats 400000 in
theorem gramEnc2 (conn seq ack code : Int) (body : Mp.Bytes) (A : Option Addr) (c : Nat) (w : World) (_hs : Seg w 5 A (bv body)) (_hb : body.length ≤ 35184372088832) :
    Calls Try.prog 58 #[.agg #[.int .i64 conn, .int .i64 2, .int .i64 seq, .int .i64 ack, .int .i64 code, .slice A body.length c]] w (RetB w (Mp.gramEnc ⟨conn, 2, seq, ack, code, body⟩)) := by
  go_enter Try.func58, Try.ntmps58
  go_wp2_with fail
  (with_reducible refine (wNums (IsW.alloc (IsW.newAt _ (w.heap.size + 1) ?_) _) 4 (by omega) (by omega) _ [conn] 1 1 rfl ?_ (by simp)).mono ?_)
  · simp
  · exact Seg.newAt _ _ (iv [conn]) _ (by simp)
  rintro e w1 ⟨rfl, hw1, hb1⟩
  generalize hs1 : Mp.nums 4 [conn] ([], false) = s1 at hw1
  have hl1 : s1.1.length ≤ 7 := by have := Mp.nums_length 4 [conn] ([], false); rw [hs1] at this; simpa using this
  have H1 := Lib.hid hs1
  clear hs1
  have e1 := ((((Blk.newAt w 38 #[.int .i64 conn, .int .i64 2, .int .i64 seq, .int .i64 ack, .int .i64 code, .slice A body.length c] _ rfl).alloc _).alloc _).below hb1 (by omega))
  obtain ⟨_, k1, k2, k3, _, k5⟩ := cells6 e1
  have b1 : Below w.heap.size w w1 := (((((Below.refl _ w).alloc (Nat.le_refl _) _).alloc (by simp) _).alloc (by simp; omega) _).trans (hb1.mono (by omega)))
  have hz := e1.lt
  clear hb1
  have hsz := b1.size
  have hW := hw1.lt
  go_wp2_with fail
  (with_reducible refine (wNums (IsW.alloc hw1 _) 4 (by omega) (by omega) _ [ack] 1 1 rfl ?_ (by simp; omega)).mono ?_)
  · exact Seg.newAt _ _ (iv [ack]) _ rfl
  rintro e w3 ⟨rfl, hw3, hb3⟩
  have b3 : Below (w.heap.size + 1) w1 w3 := ((Below.refl _ w1).alloc (by omega) _).trans hb3
  all_goals
    obtain ⟨t, ht⟩ : ∃ t, t = Mp.gramIn ⟨conn, 2, seq, ack, code, body⟩ := ⟨_, rfl⟩
    have hr : Mp.gramEnc ⟨conn, 2, seq, ack, code, body⟩ = if t.2 then none else Mp.wrap 2 t.1 := by rw [ht]; simp [Mp.gramEnc]
    have hw3' : IsW w3 (w.heap.size + 1) (w.heap.size + 1) t := by rw [ht, Mp.gramIn, H1.out]; simpa using hw3
    have hlt : t.1.length ≤ 70368744177664 := by
      have := Mp.nums_length 4 [ack] s1
      rw [ht, Mp.gramIn, H1.out]
      simp at this ⊢
      omega
    have hR : RetB w (Mp.gramEnc ⟨conn, 2, seq, ack, code, body⟩) = RetB w (if t.2 then none else Mp.wrap 2 t.1) := by rw [hr]
    have HR := Lib.hid hR
    have hz3 := (e1.below b3 (by omega)).lt
    clear hR
    have b3' : Below w.heap.size w w3 := b1.trans (b3.mono (by omega))
    obtain ⟨_, m1, _, _, _, _⟩ := cells6 (e1.below b3 (by omega))
    clear hr ht hw3 hb3
    obtain ⟨t1, sp⟩ := t
    cases sp
    · go_wp2_with fail
      refine (wBytes hw3' hlt).mono ?_
      rintro e w4 ⟨A4, c4, rfl, ho4, hb4, hf4⟩
      have m4 : w4.cell? ⟨w.heap.size, 1, none⟩ = some (.int .i64 2) := (hb4.cell (hz3)).trans m1
      have b4 := b3'.trans (hb4.mono b3'.size)
      go_wp2_with fail
      refine (frameWrap 2 A4 t1 c4 w4 ho4.seg (by omega) (by omega) hlt).mono ?_
      rintro e w5 h5
      obtain ⟨A5, n5, c5, k5, rfl, h6⟩ := (RetB.mono b4 h5).form
      go_wp2
      go_ret2
      rw [HR.out]
      exact h6
    · go_wp2_with fail
      refine (wBytes hw3' hlt).mono ?_
      rintro e w4 ⟨rfl, rfl⟩
      go_wp2
      go_ret2
      rw [HR.out]
      exact ⟨b3', rfl⟩
set_option maxRecDepth 100000 in
set_option maxHeartbeats 400000 in
theorem gramEnc3 (conn seq ack code : Int) (body : Mp.Bytes) (A : Option Addr) (c : Nat) (w : World) (_hs : Seg w 5 A (bv body)) (_hb : body.length ≤ 35184372088832) :
    Calls Try.prog 58 #[.agg #[.int .i64 conn, .int .i64 3, .int .i64 seq, .int .i64 ack, .int .i64 code, .slice A body.length c]] w (RetB w (Mp.gramEnc ⟨conn, 3, seq, ack, code, body⟩)) := by
  go_enter Try.func58, Try.ntmps58
  go_wp2_with fail
  (with_reducible refine (wNums (IsW.alloc (IsW.newAt _ (w.heap.size + 1) ?_) _) 4 (by omega) (by omega) _ [conn] 1 1 rfl ?_ (by simp)).mono ?_)
  · simp
  · exact Seg.newAt _ _ (iv [conn]) _ (by simp)
  rintro e w1 ⟨rfl, hw1, hb1⟩
  generalize hs1 : Mp.nums 4 [conn] ([], false) = s1 at hw1
  have hl1 : s1.1.length ≤ 7 := by have := Mp.nums_length 4 [conn] ([], false); rw [hs1] at this; simpa using this
  have H1 := Lib.hid hs1
  clear hs1
  have e1 := ((((Blk.newAt w 38 #[.int .i64 conn, .int .i64 3, .int .i64 seq, .int .i64 ack, .int .i64 code, .slice A body.length c] _ rfl).alloc _).alloc _).below hb1 (by omega))
  obtain ⟨_, k1, k2, k3, _, k5⟩ := cells6 e1
  have b1 : Below w.heap.size w w1 := (((((Below.refl _ w).alloc (Nat.le_refl _) _).alloc (by simp) _).alloc (by simp; omega) _).trans (hb1.mono (by omega)))
  have hz := e1.lt
  clear hb1
  have hsz := b1.size
  have hW := hw1.lt
  go_wp2_with fail
  (with_reducible refine (wNums (IsW.alloc hw1 _) 1 (by omega) (by omega) _ [code] 1 1 rfl ?_ (by simp; omega)).mono ?_)
  · exact Seg.newAt _ _ (iv [code]) _ rfl
  rintro e w3 ⟨rfl, hw3, hb3⟩
  have b3 : Below (w.heap.size + 1) w1 w3 := ((Below.refl _ w1).alloc (by omega) _).trans hb3
  all_goals
    obtain ⟨t, ht⟩ : ∃ t, t = Mp.gramIn ⟨conn, 3, seq, ack, code, body⟩ := ⟨_, rfl⟩
    have hr : Mp.gramEnc ⟨conn, 3, seq, ack, code, body⟩ = if t.2 then none else Mp.wrap 3 t.1 := by rw [ht]; simp [Mp.gramEnc]
    have hw3' : IsW w3 (w.heap.size + 1) (w.heap.size + 1) t := by rw [ht, Mp.gramIn, H1.out]; simpa using hw3
    have hlt : t.1.length ≤ 70368744177664 := by
      have := Mp.nums_length 1 [code] s1
      rw [ht, Mp.gramIn, H1.out]
      simp at this ⊢
      omega
    have hR : RetB w (Mp.gramEnc ⟨conn, 3, seq, ack, code, body⟩) = RetB w (if t.2 then none else Mp.wrap 3 t.1) := by rw [hr]
    have HR := Lib.hid hR
    have hz3 := (e1.below b3 (by omega)).lt
    clear hR
    have b3' : Below w.heap.size w w3 := b1.trans (b3.mono (by omega))
    obtain ⟨_, m1, _, _, _, _⟩ := cells6 (e1.below b3 (by omega))
    clear hr ht hw3 hb3
    obtain ⟨t1, sp⟩ := t
    cases sp
    · go_wp2_with fail
      refine (wBytes hw3' hlt).mono ?_
      rintro e w4 ⟨A4, c4, rfl, ho4, hb4, hf4⟩
      have m4 : w4.cell? ⟨w.heap.size, 1, none⟩ = some (.int .i64 3) := (hb4.cell (hz3)).trans m1
      have b4 := b3'.trans (hb4.mono b3'.size)
      go_wp2_with fail
      refine (frameWrap 3 A4 t1 c4 w4 ho4.seg (by omega) (by omega) hlt).mono ?_
      rintro e w5 h5
      obtain ⟨A5, n5, c5, k5, rfl, h6⟩ := (RetB.mono b4 h5).form
      go_wp2
      go_ret2
      rw [HR.out]
      exact h6
    · go_wp2_with fail
      refine (wBytes hw3' hlt).mono ?_
      rintro e w4 ⟨rfl, rfl⟩
      go_wp2
      go_ret2
      rw [HR.out]
      exact ⟨b3', rfl⟩

set_option maxRecDepth 100000 in
set_option maxHeartbeats 400000 in
theorem gramEncBad (conn kind seq ack code : Int) (body : Mp.Bytes) (A : Option Addr) (c : Nat) (w : World) (h1 : kind ≠ 1) (h2 : kind ≠ 2) (h3 : kind ≠ 3) :
    Calls Try.prog 58 #[.agg #[.int .i64 conn, .int .i64 kind, .int .i64 seq, .int .i64 ack, .int .i64 code, .slice A body.length c]] w (RetB w (Mp.gramEnc ⟨conn, kind, seq, ack, code, body⟩)) := by
  rw [show Mp.gramEnc ⟨conn, kind, seq, ack, code, body⟩ = none by simp [Mp.gramEnc, h1, h2, h3]]
  have d1 : (kind == 1) = false := by simpa using h1
  have d2 : (kind == 2) = false := by simpa using h2
  have d3 : (kind == 3) = false := by simpa using h3
  clear h1 h2 h3
  go_enter Try.func58, Try.ntmps58
  go_wp2_with fail
  (with_reducible refine (wNums (IsW.alloc (IsW.newAt _ (w.heap.size + 1) ?_) _) 4 (by omega) (by omega) _ [conn] 1 1 rfl ?_ (by simp)).mono ?_)
  · simp
  · exact Seg.newAt _ _ (iv [conn]) _ (by simp)
  rintro e w1 ⟨rfl, hw1, hb1⟩
  have e1 := ((((Blk.newAt w 38 #[.int .i64 conn, .int .i64 kind, .int .i64 seq, .int .i64 ack, .int .i64 code, .slice A body.length c] _ rfl).alloc _).alloc _).below hb1 (by omega))
  obtain ⟨_, k1, k2, k3, _, k5⟩ := cells6 e1
  have b1 : Below w.heap.size w w1 := (((((Below.refl _ w).alloc (Nat.le_refl _) _).alloc (by simp) _).alloc (by simp; omega) _).trans (hb1.mono (by omega)))
  clear hb1
  go_wp2
  go_ret2
  exact ⟨b1, rfl⟩

theorem gramEncode (g : Mp.Gram) (A : Option Addr) (c : Nat) (w : World) (hs : Seg w 5 A (bv g.body)) (hb : g.body.length ≤ 35184372088832) :
    Calls Try.prog 58 #[.agg (gv g A c)] w (RetB w (Mp.gramEnc g)) := by
  obtain ⟨conn, kind, seq, ack, code, body⟩ := g
  by_cases h1 : kind = 1
  · subst h1; exact gramEnc1 conn seq ack code body A c w hs hb
  · by_cases h2 : kind = 2
    · subst h2; exact gramEnc2 conn seq ack code body A c w hs hb
    · by_cases h3 : kind = 3
      · subst h3; exact gramEnc3 conn seq ack code body A c w hs hb
      · exact gramEncBad conn kind seq ack code body A c w h1 h2 h3
end Go.Proofs.Ytemcpldipjbleaa
