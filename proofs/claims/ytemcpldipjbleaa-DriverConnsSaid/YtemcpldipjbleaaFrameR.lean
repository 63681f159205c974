/- Frames: the document's summed and Wrap. -/
import Derived.Test.YtemcpldipjbleaaFrame
namespace Go.Proofs.Ytemcpldipjbleaa
open Go.RowKit

theorem be4_eq (q : Nat) (h : (q : Int) < 4294967296) : bv (Mp.be q 4) = [.int .u8 ((q : Int) / 16777216), .int .u8 ((q : Int) / 65536 % 256), .int .u8 ((q : Int) / 256 % 256), .int .u8 ((q : Int) % 256)] := by
  simp only [Mp.be, bv, List.map_cons, List.map_nil, Mp.byteAt_wrap]
  simp
  omega

set_option maxRecDepth 100000 in
set_option maxHeartbeats 1000000 in
theorem refSummed (A : Option Addr) (l : Mp.Bytes) (c : Nat) (w : World) (hs : Seg w 5 A (bv l)) (hb : l.length ≤ 70368744177664) :
    Calls Try.prog 51 #[.slice A l.length c] w (Fresh w 5 1 (Mp.summed l).length (bv (Mp.summed l))) := by
  obtain ⟨i0, hi, hz0, hz1, hz2⟩ := info_parts u8info
  have hq := u32_lt (Mp.crc l)
  have HB := Lib.hid (be4_eq (Mp.crc l).toNat hq)
  have HS := refSum A l c w hs hb
  rw [show (Mp.summed l).length = l.length + 4 by rw [Mp.summed_length], show bv (Mp.summed l) = bv l ++ bv (Mp.be ((Mp.crc l).toNat : Int) 4) by rw [Mp.summed, bv_append], HB.out]
  clear HB
  generalize (Mp.crc l).toNat = q at hq HS ⊢
  have HC := Lib.hid HS
  clear HS
  go_enter Try.func51, Try.ntmps51
  go_wp2_with fail
  refine HC.out.mono ?_
  rintro e w1 ⟨rfl, rfl⟩
  have hbl : Below w.heap.size w (w.alloc (.cells #[] 5)) := (Below.refl _ w).alloc (Nat.le_refl _) _
  go_wp2_with (first
    | (at_builtin; refine wpList_append_s _ rfl (.tmp 6) (.tmp 7) _ rfl 5 5 i0 (.int .u8 0) 1 1 Try.underlying36 hi hz0 hz1 hz2 rfl (some ⟨w.heap.size, 0, none⟩) 0 0 [] rfl (OwnS.nil _ _ _ _) A l.length c (bv l) rfl (by rw [bv_length]; omega) (hs.below hbl) (bv_one l) (le_maxLen (by omega)) (by omega) ?_; intro A1 c1 w1 ho1 hu1 hf1; simp only [Nat.zero_add, List.nil_append] at ho1)
    | (at_builtin; refine wpList_append_s _ rfl (.tmp 8) (.tmp 20) _ rfl 5 5 i0 (.int .u8 0) 1 1 Try.underlying36 hi hz0 hz1 hz2 rfl A1 l.length c1 (bv l) rfl (ho1.below ((Below.refl _ _).alloc (Nat.le_refl _) _)) (some ⟨w1.heap.size, 0, none⟩) 4 4 [.int .u8 ((q : Int) / 16777216), .int .u8 ((q : Int) / 65536 % 256), .int .u8 ((q : Int) / 256 % 256), .int .u8 ((q : Int) % 256)] rfl rfl (Seg.newAt _ _ _ _ rfl) (by simp [Value.oneCell']) (le_maxLen (by omega)) (by omega) ?_; intro A2 c2 w2 ho2 hu2 hf2))
  go_ret
  have g1 : ∀ k, k ∈ fp A1 c1 → w.heap.size ≤ k := fun k hk => (hf1 k hk).elim (fun h => by simp [fp] at h) (fun h => by simp at h; omega)
  have hb1 : Below w.heap.size w w1 := hbl.trans (upd_below hu1 (by simp [fp]) (by simp))
  have s1 := hb1.size
  refine ⟨A2, c2, rfl, by simpa using ho2, (hb1.alloc s1 _).trans (upd_below hu2 g1 (by simp; omega)), fun k hk => ?_⟩
  rcases hf2 k hk with h | h
  · exact g1 k h
  · simp at h; omega

theorem be1_eq (k : Int) (h0 : 0 ≤ k) (h1 : k ≤ 255) : bv (Mp.be k 1) = [.int .u8 k] := by
  simp only [Mp.be, bv, List.map_cons, List.map_nil, Mp.byteAt_wrap]
  simp
  omega
theorem be2_eq (n : Nat) (h : n < 65536) : bv (Mp.be n 2) = [.int .u8 ((n : Int) / 256), .int .u8 ((n : Int) % 256)] := by
  simp only [Mp.be, bv, List.map_cons, List.map_nil, Mp.byteAt_wrap]
  simp
  omega

set_option maxRecDepth 100000 in
set_option maxHeartbeats 1000000 in
theorem refWrap (kind : Int) (A : Option Addr) (l : Mp.Bytes) (c : Nat) (w : World) (hs : Seg w 5 A (bv l)) (hb : l.length ≤ 70368744177664) :
    Calls Try.prog 36 #[.int .i64 kind, .slice A l.length c] w (RetB w (Mp.wrap kind l)) := by
  by_cases hbad : kind < 0 ∨ 255 < kind ∨ 2000 < l.length
  · rw [show Mp.wrap kind l = none by unfold Mp.wrap; rw [if_pos hbad]]
    by_cases h1 : kind < 0
    · clear hbad
      go_enter Try.func36, Try.ntmps36
      go_wp2
      go_ret2
      exact ⟨Below.refl _ _, rfl⟩
    · by_cases h2 : 255 < kind
      · clear hbad
        go_enter Try.func36, Try.ntmps36
        go_wp2
        go_ret2
        exact ⟨Below.refl _ _, rfl⟩
      · have h3 : 2000 < l.length := by omega
        clear hbad
        go_enter Try.func36, Try.ntmps36
        go_wp2
        go_ret2
        exact ⟨Below.refl _ _, rfl⟩
  · obtain ⟨i0, hi, hz0, hz1, hz2⟩ := info_parts u8info
    rw [show Mp.wrap kind l = some (Mp.summed (Mp.headed kind l)) by unfold Mp.wrap; rw [if_neg hbad]]
    have k0 : 0 ≤ kind := by omega
    have k1 : kind ≤ 255 := by omega
    have k2 : l.length ≤ 2000 := by omega
    have d1 : decide (kind < 0) = false := by simp; omega
    have d2 : decide (255 < kind) = false := by simp; omega
    have d3 : decide (2000 < (l.length : Int)) = false := by simp; omega
    have HH := Lib.hid (show bv (Mp.headed kind l) = [.int .u8 77, .int .u8 3, .int .u8 kind, .int .u8 ((l.length : Int) / 256), .int .u8 ((l.length : Int) % 256)] ++ bv l by
      unfold Mp.headed
      rw [bv_append, bv_append, bv_append, bv_append, be1_eq 77 (by omega) (by omega), be1_eq 3 (by omega) (by omega), be1_eq kind k0 k1, be2_eq l.length (by omega)]; rfl)
    obtain ⟨L, hL⟩ : ∃ L, L = Mp.headed kind l := ⟨_, rfl⟩
    have hLl : L.length = 5 + l.length := by rw [hL, Mp.headed_length]; omega
    rw [← hL] at HH ⊢
    have HL := Lib.hid hLl
    clear hL hLl hbad
    go_enter Try.func36, Try.ntmps36
    go_wp2_with (at_builtin; refine wpList_append_s _ rfl (.tmp 28) (.tmp 29) _ rfl 5 5 i0 (.int .u8 0) 1 1 Try.underlying36 hi hz0 hz1 hz2 rfl (some ⟨w.heap.size, 0, none⟩) 5 5 [_, _, _, _, _] rfl ⟨rfl, Nat.le_refl _, le_maxLen (by omega), fun _ => ⟨w.heap.size, 0, _, rfl, heap_alloc_new w _, by simp, fun j u hu => by simpa using hu⟩⟩ A l.length c (bv l) rfl (by rw [bv_length]; omega) (hs.alloc _) (bv_one l) (le_maxLen (by omega)) (by omega) ?_; intro A1 c1 w1 ho1 hu1 hf1)
    rw [← HH.out, ← HL.out] at ho1
    have s1 : Below w.heap.size w w1 := ((Below.refl _ w).alloc (Nat.le_refl _) _).trans (upd_below hu1 (by simp [fp]) (by simp))
    have hbL : L.length ≤ 70368744177664 := by rw [HL.out]; omega
    go_wp2_with fail
    rw [← HL.out]
    refine (refSummed A1 L c1 w1 ho1.seg hbL).mono ?_
    rintro e w2 ⟨A2, c2, rfl, ho2, hb2, hf2⟩
    go_wp2
    go_ret2
    exact ⟨s1.trans (hb2.mono s1.size), A2, c2, rfl, ho2, fun k hk => Nat.le_trans s1.size (hf2 k hk)⟩
end Go.Proofs.Ytemcpldipjbleaa
