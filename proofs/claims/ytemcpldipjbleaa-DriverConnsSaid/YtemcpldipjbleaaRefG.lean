/- milepostref1.Gram. -/
import Derived.Test.YtemcpldipjbleaaRefN
import Derived.Test.YtemcpldipjbleaaGram
import Derived.Test.YtemcpldipjbleaaLawD
import Derived.Deep.RegionLaw
import Derived.Deep.RegionWith
namespace Go.Proofs.Ytemcpldipjbleaa
open Go.RowKit
attribute [local go_sem ↓] Go.wp_at_zero Go.wp_at_succ

set_option maxRecDepth 100000 in
set_option maxHeartbeats 400000 in
theorem refGram1 (conn seq ack code : Int) (body : Mp.Bytes) (A : Option Addr) (c : Nat) (w : World) (hs : Seg w 5 A (bv body)) (hb : body.length ≤ 35184372088832) :
    Calls Try.prog 16 #[.agg #[.int .i64 conn, .int .i64 1, .int .i64 seq, .int .i64 ack, .int .i64 code, .slice A body.length c]] w (RetB w (Mp.gramEnc ⟨conn, 1, seq, ack, code, body⟩)) := by
  obtain ⟨s1, h1⟩ : ∃ s, s = Mp.nums 4 [conn] ([], false) := ⟨_, rfl⟩
  obtain ⟨s2, h2⟩ : ∃ s, s = Mp.nums 4 [seq] s1 := ⟨_, rfl⟩
  obtain ⟨s3, h3⟩ : ∃ s, s = Mp.nums 4 [ack] s2 := ⟨_, rfl⟩
  have l1 : s1.1.length ≤ 7 := by rw [h1]; simpa using Mp.nums_length 4 [conn] ([], false)
  have l2 : s2.1.length ≤ 14 := by have := Mp.nums_length 4 [seq] s1; rw [← h2] at this; simp at this; omega
  have l3 : s3.1.length ≤ 21 := by have := Mp.nums_length 4 [ack] s2; rw [← h3] at this; simp at this; omega
  have HR := Lib.hid (show Mp.gramEnc ⟨conn, 1, seq, ack, code, body⟩ = if s3.2 then none else Mp.wrap 1 (s3.1 ++ body) by
    rw [Mp.gramEnc_R _ (.inl rfl)]
    unfold Mp.gramInR
    simp only
    rw [if_pos trivial, ← h1, ← h2, ← h3])
  have H1 := Lib.hid h1
  have H2 := Lib.hid h2
  have H3 := Lib.hid h3
  clear h1 h2 h3
  have e0 := (Blk.newAt w 38 #[.int .i64 conn, .int .i64 1, .int .i64 seq, .int .i64 ack, .int .i64 code, .slice A body.length c] _ rfl).alloc (.cells #[.slice none 0 0, .bool false] 80)
  have b0 : Below w.heap.size w ((w.alloc (.cells #[.int .i64 conn, .int .i64 1, .int .i64 seq, .int .i64 ack, .int .i64 code, .slice A body.length c] 38)).alloc (.cells #[.slice none 0 0, .bool false] 80)) := ((Below.refl _ w).alloc (Nat.le_refl _) _).alloc (by simp) _
  have v0 : IsV ((w.alloc (.cells #[.int .i64 conn, .int .i64 1, .int .i64 seq, .int .i64 ack, .int .i64 code, .slice A body.length c] 38)).alloc (.cells #[.slice none 0 0, .bool false] 80)) (w.heap.size + 1) (w.heap.size + 1) ([], false) := IsV.newAt _ _ (by simp)
  go_enter Try.func16, Try.ntmps16
  go_wp2_with fail
  (with_reducible refine (refPutAny v0 4 (by omega) (by omega) conn (by simp)).mono ?_)
  rintro e w1 ⟨rfl, v1, b1⟩
  rw [← H1.out] at v1
  have e1 := e0.below b1 (by omega)
  have c1 := b0.trans (b1.mono (by omega))
  obtain ⟨_, _, q2, _, _, _⟩ := cells6 e1
  clear v0 b0
  go_wp2_with fail
  (with_reducible refine (refPutAny v1 4 (by omega) (by omega) seq (by omega)).mono ?_)
  rintro e w2 ⟨rfl, v2, b2⟩
  rw [← H2.out] at v2
  have e2 := e1.below b2 (by omega)
  have c2 := c1.trans (b2.mono (by omega))
  obtain ⟨_, _, _, q3, _, _⟩ := cells6 e2
  clear v1 b1 q2 e1 c1
  go_wp2_with fail
  (with_reducible refine (refPutAny v2 4 (by omega) (by omega) ack (by omega)).mono ?_)
  rintro e w3 ⟨rfl, v3, b3⟩
  rw [← H3.out] at v3
  have e3 := e2.below b3 (by omega)
  have c3 := c2.trans (b3.mono (by omega))
  obtain ⟨_, q1, _, _, _, q5⟩ := cells6 e3
  clear v2 b2 q3 e2 c2
  obtain ⟨hB, A3, cap3, g3, o3, f3⟩ := id v3
  have q7 : w3.cell? ⟨w.heap.size + 1, 0, none⟩ = some (.slice A3 s3.1.length cap3) := g3.cell 0
  have q8 : w3.frozen? ⟨w.heap.size + 1, 0, none⟩ = false := g3.frozen 0
  have gb1 : w3.cell? ⟨w.heap.size + 1, 1, none⟩ = some (.bool s3.2) := g3.cell 1
  obtain ⟨i0, hi, hz0, hz1, hz2⟩ := info_parts u8info
  have hgn := o3.fp_ne g3 (by decide)
  have hen := o3.fp_ne e3 (by decide)
  have O3 := Lib.hid (o3.below (Below.refl _ w3).drew)
  have HS3 := Lib.hid (hs.below c3).drew
  have HL := Lib.hid (bv_length body)
  have H63 := Lib.hid (show s3.1.length + body.length ≤ maxLen from le_maxLen (by omega))
  have H48 := Lib.hid (show (s3.1.length + body.length) * 1 ≤ 140737488355328 by omega)
  have E9 := Lib.hid (show ∀ w4, Upd (fp A3 cap3) w3.drew w4 → w4.cell? ⟨w.heap.size + 1, 0, none⟩ = some (.slice A3 s3.1.length cap3) from fun w4 hu => (hu.blk g3.drew hgn).cell 0)
  have E10 := Lib.hid (show ∀ w4, Upd (fp A3 cap3) w3.drew w4 → w4.frozen? ⟨w.heap.size + 1, 0, none⟩ = false from fun w4 hu => (hu.blk g3.drew hgn).frozen 0)
  go_wp2_with fail
  go_region_law (refine step_append_s w3.drew (by rfl) _ _ _ (by rfl) 5 5 i0 (.int .u8 0) 1 1 Try.underlying36 hi hz0 hz1 hz2 rfl A3 s3.1.length cap3 (bv s3.1) (by rfl) O3.out A body.length c (bv body) (by rfl) (by rw [HL.out, Nat.mul_one]) HS3.out (bv_one _) H63.out H48.out ?_; intro A' cap' w4 hown hup hfp; have c4 := E9.out w4 hup; have f4 := E10.out w4 hup)
  all_goals
    have g4 := hup.blk g3.drew hgn
    have e4 := hup.blk e3.drew hen
    have b4 := (Below.refl _ w3).drew.trans (upd_below hup f3 (by have := g3.drew.lt; omega))
    have hfp' : ∀ k, k ∈ fp A' cap' → w.heap.size + 1 ≤ k := fun k hk => (hfp k hk).elim (f3 k) (fun h => by have := g3.drew.lt; omega)
    rw [← bv_append] at hown
    have v5 := IsV.wrote hB g4 hown hfp' (by simp)
    have e5 := (Upd.refl [w.heap.size + 1] w4).setCell (p := ⟨w.heap.size + 1, 0, none⟩) (.inl (by simp)) (.slice A' (s3.1.length + body.length) cap') |>.blk e4 (by simp)
    have c5 := (c3.trans (b4.mono (by omega))).setCell (p := ⟨w.heap.size + 1, 0, none⟩) (by simp) (.slice A' (s3.1.length + body.length) cap')
    generalize (w4.setCell ⟨w.heap.size + 1, 0, none⟩ (.slice A' (s3.1.length + body.length) cap')) = w5 at v5 e5 c5 ⊢
    have hll : (s3.1 ++ body).length ≤ 70368744177664 := by simp; omega
    generalize s3.1 ++ body = L at v5 HR hll
    generalize s3.2 = sp at v5 HR
    clear hown hup hfp' hfp c4 f4 g4 e4 b4 E9 E10 H63 H48 HS3 O3 o3 g3 q7 q8 gb1
    obtain ⟨hB5, A5, cap5, g5, o5, f5⟩ := v5
    simp only at g5 o5
    obtain ⟨_, p1, _, _, _, _⟩ := cells6 e5
    have p2 : w5.cell? ⟨w.heap.size + 1, 0, none⟩ = some (.slice A5 L.length cap5) := g5.cell 0
    have p3 : w5.cell? ⟨w.heap.size + 1, 1, none⟩ = some (.bool sp) := g5.cell 1
    cases sp
    · have HW := Lib.hid (refWrap 1 A5 L cap5 w5.drew o5.seg.drew hll)
      go_wp2_with fail
      go_region_with (go_at_call 36; (with_reducible refine HW.out.mono ?_); rintro e w6 hret; obtain ⟨A6, n6, c6, k6, rfl, hr6⟩ := hret.form)
      all_goals
        go_wp2_with fail
        go_ret2
        rw [HR.out]
        exact hr6.mono c5.drew
    · go_wp2_with fail
      go_ret2
      rw [HR.out]
      exact ⟨c5, rfl⟩
-- printed by genrefg.py

set_option maxRecDepth 100000 in
set_option maxHeartbeats 400000 in
theorem refGram2 (conn seq ack code : Int) (body : Mp.Bytes) (A : Option Addr) (c : Nat) (w : World) :
    Calls Try.prog 16 #[.agg #[.int .i64 conn, .int .i64 2, .int .i64 seq, .int .i64 ack, .int .i64 code, .slice A body.length c]] w (RetB w (Mp.gramEnc ⟨conn, 2, seq, ack, code, body⟩)) := by
  obtain ⟨s1, h1⟩ : ∃ s, s = Mp.nums 4 [conn] ([], false) := ⟨_, rfl⟩
  obtain ⟨s2, h2⟩ : ∃ s, s = Mp.nums 4 [ack] s1 := ⟨_, rfl⟩
  have l1 : s1.1.length ≤ 7 := by rw [h1]; simpa using Mp.nums_length 4 [conn] ([], false)
  have l2 : s2.1.length ≤ 14 := by have := Mp.nums_length 4 [ack] s1; rw [← h2] at this; simp at this; omega
  have HR := Lib.hid (show Mp.gramEnc ⟨conn, 2, seq, ack, code, body⟩ = if s2.2 then none else Mp.wrap 2 s2.1 by
    rw [Mp.gramEnc_R _ (.inr (.inl rfl))]
    rw [show Mp.gramInR ⟨conn, 2, seq, ack, code, body⟩ = s2 from by rw [h2, h1]; rfl])
  have H1 := Lib.hid h1
  have H2 := Lib.hid h2
  clear h1 h2
  have e0 := (Blk.newAt w 38 #[.int .i64 conn, .int .i64 2, .int .i64 seq, .int .i64 ack, .int .i64 code, .slice A body.length c] _ rfl).alloc (.cells #[.slice none 0 0, .bool false] 80)
  have b0 : Below w.heap.size w ((w.alloc (.cells #[.int .i64 conn, .int .i64 2, .int .i64 seq, .int .i64 ack, .int .i64 code, .slice A body.length c] 38)).alloc (.cells #[.slice none 0 0, .bool false] 80)) := ((Below.refl _ w).alloc (Nat.le_refl _) _).alloc (by simp) _
  have v0 : IsV ((w.alloc (.cells #[.int .i64 conn, .int .i64 2, .int .i64 seq, .int .i64 ack, .int .i64 code, .slice A body.length c] 38)).alloc (.cells #[.slice none 0 0, .bool false] 80)) (w.heap.size + 1) (w.heap.size + 1) ([], false) := IsV.newAt _ _ (by simp)
  go_enter Try.func16, Try.ntmps16
  go_wp2_with fail
  (with_reducible refine (refPutAny v0 4 (by omega) (by omega) conn (by simp)).mono ?_)
  rintro e w1 ⟨rfl, v1, b1⟩
  rw [← H1.out] at v1
  have e1 := e0.below b1 (by omega)
  have c1 := b0.trans (b1.mono (by omega))
  obtain ⟨_, _, _, q2, _, _⟩ := cells6 e1
  clear v0 b0
  go_wp2_with fail
  (with_reducible refine (refPutAny v1 4 (by omega) (by omega) ack (by omega)).mono ?_)
  rintro e w2 ⟨rfl, v2, b2⟩
  rw [← H2.out] at v2
  have e5 := e1.below b2 (by omega)
  have c5 := c1.trans (b2.mono (by omega))
  have hll : s2.1.length ≤ 70368744177664 := by omega
  obtain ⟨L, sp⟩ := s2
  simp only at v2 HR hll
  obtain ⟨hB5, A5, cap5, g5, o5, f5⟩ := v2
  simp only at g5 o5
  obtain ⟨_, p1, _, _, _, _⟩ := cells6 e5
  have p2 : w2.cell? ⟨w.heap.size + 1, 0, none⟩ = some (.slice A5 L.length cap5) := g5.cell 0
  have p3 : w2.cell? ⟨w.heap.size + 1, 1, none⟩ = some (.bool sp) := g5.cell 1
  clear v1 b1 q2 e1 c1
  cases sp
  · have HW := Lib.hid (refWrap 2 A5 L cap5 w2.drew o5.seg.drew hll)
    go_wp2_with fail
    go_region_with (go_at_call 36; (with_reducible refine HW.out.mono ?_); rintro e w6 hret; obtain ⟨A6, n6, c6, k6, rfl, hr6⟩ := hret.form)
    all_goals
      go_wp2_with fail
      go_ret2
      rw [HR.out]
      exact hr6.mono c5.drew
  · go_wp2_with fail
    go_ret2
    rw [HR.out]
    exact ⟨c5, rfl⟩

set_option maxRecDepth 100000 in
set_option maxHeartbeats 400000 in
theorem refGram3 (conn seq ack code : Int) (body : Mp.Bytes) (A : Option Addr) (c : Nat) (w : World) :
    Calls Try.prog 16 #[.agg #[.int .i64 conn, .int .i64 3, .int .i64 seq, .int .i64 ack, .int .i64 code, .slice A body.length c]] w (RetB w (Mp.gramEnc ⟨conn, 3, seq, ack, code, body⟩)) := by
  obtain ⟨s1, h1⟩ : ∃ s, s = Mp.nums 4 [conn] ([], false) := ⟨_, rfl⟩
  obtain ⟨s2, h2⟩ : ∃ s, s = Mp.nums 1 [code] s1 := ⟨_, rfl⟩
  have l1 : s1.1.length ≤ 7 := by rw [h1]; simpa using Mp.nums_length 4 [conn] ([], false)
  have l2 : s2.1.length ≤ 14 := by have := Mp.nums_length 1 [code] s1; rw [← h2] at this; simp at this; omega
  have HR := Lib.hid (show Mp.gramEnc ⟨conn, 3, seq, ack, code, body⟩ = if s2.2 then none else Mp.wrap 3 s2.1 by
    rw [Mp.gramEnc_R _ (.inr (.inr rfl))]
    rw [show Mp.gramInR ⟨conn, 3, seq, ack, code, body⟩ = s2 from by rw [h2, h1]; rfl])
  have H1 := Lib.hid h1
  have H2 := Lib.hid h2
  clear h1 h2
  have e0 := (Blk.newAt w 38 #[.int .i64 conn, .int .i64 3, .int .i64 seq, .int .i64 ack, .int .i64 code, .slice A body.length c] _ rfl).alloc (.cells #[.slice none 0 0, .bool false] 80)
  have b0 : Below w.heap.size w ((w.alloc (.cells #[.int .i64 conn, .int .i64 3, .int .i64 seq, .int .i64 ack, .int .i64 code, .slice A body.length c] 38)).alloc (.cells #[.slice none 0 0, .bool false] 80)) := ((Below.refl _ w).alloc (Nat.le_refl _) _).alloc (by simp) _
  have v0 : IsV ((w.alloc (.cells #[.int .i64 conn, .int .i64 3, .int .i64 seq, .int .i64 ack, .int .i64 code, .slice A body.length c] 38)).alloc (.cells #[.slice none 0 0, .bool false] 80)) (w.heap.size + 1) (w.heap.size + 1) ([], false) := IsV.newAt _ _ (by simp)
  go_enter Try.func16, Try.ntmps16
  go_wp2_with fail
  (with_reducible refine (refPutAny v0 4 (by omega) (by omega) conn (by simp)).mono ?_)
  rintro e w1 ⟨rfl, v1, b1⟩
  rw [← H1.out] at v1
  have e1 := e0.below b1 (by omega)
  have c1 := b0.trans (b1.mono (by omega))
  obtain ⟨_, _, _, _, q2, _⟩ := cells6 e1
  clear v0 b0
  go_wp2_with fail
  (with_reducible refine (refPutAny v1 1 (by omega) (by omega) code (by omega)).mono ?_)
  rintro e w2 ⟨rfl, v2, b2⟩
  rw [← H2.out] at v2
  have e5 := e1.below b2 (by omega)
  have c5 := c1.trans (b2.mono (by omega))
  have hll : s2.1.length ≤ 70368744177664 := by omega
  obtain ⟨L, sp⟩ := s2
  simp only at v2 HR hll
  obtain ⟨hB5, A5, cap5, g5, o5, f5⟩ := v2
  simp only at g5 o5
  obtain ⟨_, p1, _, _, _, _⟩ := cells6 e5
  have p2 : w2.cell? ⟨w.heap.size + 1, 0, none⟩ = some (.slice A5 L.length cap5) := g5.cell 0
  have p3 : w2.cell? ⟨w.heap.size + 1, 1, none⟩ = some (.bool sp) := g5.cell 1
  clear v1 b1 q2 e1 c1
  cases sp
  · have HW := Lib.hid (refWrap 3 A5 L cap5 w2.drew o5.seg.drew hll)
    go_wp2_with fail
    go_region_with (go_at_call 36; (with_reducible refine HW.out.mono ?_); rintro e w6 hret; obtain ⟨A6, n6, c6, k6, rfl, hr6⟩ := hret.form)
    all_goals
      go_wp2_with fail
      go_ret2
      rw [HR.out]
      exact hr6.mono c5.drew
  · go_wp2_with fail
    go_ret2
    rw [HR.out]
    exact ⟨c5, rfl⟩

set_option maxRecDepth 100000 in
theorem refGram0 (g : Mp.Gram) (A : Option Addr) (c : Nat) (w : World) (h1 : g.kind ≠ 1) (h2 : g.kind ≠ 2) (h3 : g.kind ≠ 3) :
    Calls Try.prog 16 #[.agg (gv g A c)] w (RetB w (Mp.gramEnc g)) := by
  have HR := Lib.hid (show Mp.gramEnc g = none by unfold Mp.gramEnc; rw [if_neg (by omega)])
  rw [HR.out]
  obtain ⟨conn, kind, seq, ack, code, body⟩ := g
  simp only at h1 h2 h3
  have d1 : (kind == 1) = false := by simpa using h1
  have d2 : (kind == 2) = false := by simpa using h2
  have d3 : (kind == 3) = false := by simpa using h3
  simp only [gv]
  clear h1 h2 h3
  go_enter Try.func16, Try.ntmps16
  go_wp2_with fail
  go_ret2
  exact ⟨((Below.refl _ w).alloc (Nat.le_refl _) _).alloc (by simp) _, rfl⟩
/-- the document's Gram -/
theorem refGram (g : Mp.Gram) (A : Option Addr) (c : Nat) (w : World) (hs : Seg w 5 A (bv g.body)) (hb : g.body.length ≤ 35184372088832) :
    Calls Try.prog 16 #[.agg (gv g A c)] w (RetB w (Mp.gramEnc g)) := by
  by_cases h1 : g.kind = 1
  · obtain ⟨conn, kind, seq, ack, code, body⟩ := g
    simp only at h1
    subst h1
    exact refGram1 conn seq ack code body A c w hs hb
  by_cases h2 : g.kind = 2
  · obtain ⟨conn, kind, seq, ack, code, body⟩ := g
    simp only at h2
    subst h2
    exact refGram2 conn seq ack code body A c w
  by_cases h3 : g.kind = 3
  · obtain ⟨conn, kind, seq, ack, code, body⟩ := g
    simp only at h3
    subst h3
    exact refGram3 conn seq ack code body A c w
  exact refGram0 g A c w h1 h2 h3
end Go.Proofs.Ytemcpldipjbleaa
