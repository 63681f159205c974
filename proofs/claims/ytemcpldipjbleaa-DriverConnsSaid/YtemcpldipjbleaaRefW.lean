/- milepostref1: Size, Reader.Left, Reader.Done. -/
import Derived.Test.YtemcpldipjbleaaFrameR
namespace Go.Proofs.Ytemcpldipjbleaa
open Go.RowKit

theorem refSize (n : Int) (w : World) : Calls Try.prog 52 #[.int .i64 n] w fun e w' => e = .returned (.bool (Mp.okSize n)) ∧ w = w' := by
  by_cases h : 1 ≤ n
  · go_enter Try.func52, Try.ntmps52
    go_wp2
    go_ret
    exact ⟨by simp [Mp.okSize, h], rfl⟩
  · have e : Mp.okSize n = false := by simp [Mp.okSize]; omega
    rw [e]
    go_enter Try.func52, Try.ntmps52
    go_wp2
    go_ret
    exact ⟨by simp, rfl⟩

/-- block g is the document's reader with the bytes s.1 left, spoilt or not -/
def IsQ (w : World) (g : Nat) (s : Mp.Bytes × Bool) : Prop :=
  ∃ A c, Blk w g 76 #[.slice A s.1.length c, .bool s.2] ∧ s.1.length ≤ c ∧ True ∧ Seg w 5 A (bv s.1)

theorem refLeft {w : World} {g : Nat} {s : Mp.Bytes × Bool} (hr : IsQ w g s) :
    Calls Try.prog 33 #[.pointer (some ⟨g, 0, none⟩)] w fun e w' => e = .returned (.int .i64 (Mp.rleft s)) ∧ w = w' := by
  obtain ⟨A, c, h1, h2, h3, h4⟩ := hr
  obtain ⟨l, sp⟩ := s
  have c0 := h1.cell 0
  have c1 := h1.cell 1
  simp at c0 c1
  cases sp
  · go_enter Try.func33, Try.ntmps33
    go_wp2
    go_ret
    exact ⟨by simp [Mp.rleft], rfl⟩
  · go_enter Try.func33, Try.ntmps33
    go_wp2
    go_ret
    exact ⟨by simp [Mp.rleft], rfl⟩

set_option maxRecDepth 100000 in
set_option maxHeartbeats 400000 in
theorem refDone {w : World} {g : Nat} {s : Mp.Bytes × Bool} (hr : IsQ w g s) :
    Calls Try.prog 34 #[.pointer (some ⟨g, 0, none⟩)] w fun e w' => e = .returned (.bool (!s.2 && s.1.length == 0)) ∧ ∃ n, w' = w.drewN n := by
  obtain ⟨A, c, h1, h2, h3, h4⟩ := hr
  obtain ⟨l, sp⟩ := s
  have c0 := h1.cell 0
  have c1 := h1.cell 1
  simp at c0 c1
  cases sp
  · by_cases h0 : l.length = 0
    · have d : ((l.length : Int) == 0) = true := by simp [h0]
      have e : (!(false : Bool) && l.length == 0) = true := by simp [h0]
      simp only
      rw [e]
      clear h0 e
      go_enter Try.func34, Try.ntmps34
      go_wp2
      go_ret
      exact ⟨by simp, 0, rfl⟩
    · have d : ((l.length : Int) == 0) = false := by rw [beq_eq_false_iff_ne]; omega
      have e : (!(false : Bool) && l.length == 0) = false := by simp [h0]
      simp only
      rw [e]
      clear h0 e
      go_enter Try.func34, Try.ntmps34
      go_wp2
      go_ret
      exact ⟨by simp, 0, rfl⟩
  · go_enter Try.func34, Try.ntmps34
    go_wp2
    go_ret
    exact ⟨by simp, 0, rfl⟩

set_option maxRecDepth 100000 in
set_option maxHeartbeats 1000000 in
theorem refNumOk {w : World} {g : Nat} {l : Mp.Bytes} (hr : IsQ w g (l, false)) (size : Nat) (h1 : 1 ≤ size) (h7 : size ≤ 7) (hb : size ≤ l.length) :
    Calls Try.prog 31 #[.pointer (some ⟨g, 0, none⟩), .int .i64 (size : Int)] w fun e w' => e = .returned (.int .i64 (Mp.num (l.take size))) ∧ IsQ w' g (l.drop size, false) ∧ Upd [g] w w' ∧ Keep 5 w w' := by
  obtain ⟨A, c, b1, b2, b3, b4⟩ := hr
  simp only at b1 b2
  have c0 : w.cell? ⟨g, 0, none⟩ = some (.slice A l.length c) := b1.cell 0
  have c1 : w.cell? ⟨g, 1, none⟩ = some (.bool false) := b1.cell 1
  have f0 : w.frozen? ⟨g, 0, none⟩ = false := b1.frozen 0
  have hok : Mp.okSize (size : Int) = true := by simp [Mp.okSize]; omega
  have HS := Lib.hid (refSize (size : Int) w)
  rw [hok] at HS
  have d1 : decide ((l.length : Int) < (size : Int)) = false := by simp; omega
  obtain ⟨A2, hcut, hseg, _⟩ := cutFrom (k := size) Try.underlying36 Try.sizeOf5 b4 (bv_length l) hb b2
  go_enter Try.func31, Try.ntmps31
  go_wp2_with (go_at_call 52; (with_reducible refine HS.out.mono ?_); rintro e w1 ⟨rfl, rfl⟩)
  go_loop [5, 6] (fun t i => ∃ k : Nat, k ≤ size ∧ i = .int .i64 k ∧ t = .int .i64 (Mp.num (l.take k))) (fun _ i => size - (intOf i).toNat)
  case atStart => exact ⟨0, Nat.zero_le _, rfl, by simp [Mp.num]⟩
  case round =>
    obtain ⟨k, hk, rfl, rfl⟩ := hrel
    by_cases hlt : k < size
    · obtain ⟨b, o, rfl, hx⟩ := b4.cell (j := k) (by rw [bv_length]; omega)
      obtain ⟨v, hv⟩ : ∃ v, v = l[k]'(by omega) := ⟨_, rfl⟩
      have hx' : w.cell? ⟨b, o + k, none⟩ = some (.int .u8 (v.toNat : Int)) := by rw [hx]; simp [bv, hv]
      have HK : Hid (Mp.num (l.take (k + 1)) = Mp.num (l.take k) * 256 + v.toNat) := by
        have : l.take (k + 1) = l.take k ++ [v] := by rw [List.take_succ_eq_append_getElem (by omega), hv]
        rw [this]; exact Lib.hid (Mp.num_append _ _)
      clear hx hv hcut
      obtain ⟨n0, n1⟩ := Mp.num_bounds (l.take k)
      generalize Mp.num (l.take k) = q at *
      have hq : q < 281474976710656 := by
        have : (256 : Int) ^ (l.take k).length ≤ 256 ^ 6 := Mp.pow256_le (by rw [List.length_take]; omega)
        omega
      clear n1
      have hv8 := v.toNat_lt
      go_wp2
      refine ⟨⟨k + 1, by omega, by go_num, ?_⟩, by simp [intOf]; omega⟩
      rw [shl8_or q v n0 (by omega), HK.out]
    · have hk2 : k = size := by omega
      subst hk2
      go_wp2
      go_ret
      have b5 := b1.set_ 0 (.slice A2 (l.length - k) (c - k))
      refine ⟨rfl, ⟨A2, c - k, ?_, ?_, ?_, ?_⟩, (Upd.refl _ _).setCell (.inl (by simp)) _, (Keep.refl _ _).setCell b1 (by decide) 0 _⟩
      · simpa using b5
      · simp; omega
      · trivial
      · rw [bv_drop]; exact hseg.keep ((Keep.refl _ _).setCell b1 (by decide) 0 _)

set_option maxRecDepth 100000 in
set_option maxHeartbeats 1000000 in
theorem refRawOk {w : World} {g : Nat} {l : Mp.Bytes} (hr : IsQ w g (l, false)) (n : Nat) (hb : n ≤ l.length) (hl : l.length ≤ 70368744177664) :
    Calls Try.prog 32 #[.pointer (some ⟨g, 0, none⟩), .int .i64 (n : Int)] w fun e w' => ∃ A c, e = .returned (.slice A n c) ∧ OwnS w' 5 1 A n c (bv (l.take n)) ∧ (∀ k, k ∈ fp A c → w.heap.size ≤ k) ∧ IsQ w' g (l.drop n, false) ∧ Upd [g] w w' := by
  obtain ⟨i0, hi, hz0, hz1, hz2⟩ := info_parts u8info
  obtain ⟨A, c, b1, b2, b3, b4⟩ := hr
  simp only at b1 b2
  have hbl : Below w.heap.size w (w.alloc (.cells #[] 5)) := (Below.refl _ w).alloc (Nat.le_refl _) _
  have c0 : w.cell? ⟨g, 0, none⟩ = some (.slice A l.length c) := b1.cell 0
  have c1 : w.cell? ⟨g, 1, none⟩ = some (.bool false) := b1.cell 1
  have hgl := b1.lt
  have c0a : (w.alloc (.cells #[] 5)).cell? ⟨g, 0, none⟩ = some (.slice A l.length c) := (b1.alloc _).cell 0
  have d1 : decide ((l.length : Int) < (n : Int)) = false := by simp; omega
  have d0 : decide ((n : Int) < 0) = false := by simp
  have hnc : (n : Int) ≤ (c : Int) := by omega
  have hn0 : (0 : Int) ≤ (n : Int) := by omega
  have hnl : (n : Int) ≤ (l.length : Int) := by omega
  obtain ⟨A2, hcut, hseg, _⟩ := cutFrom (k := n) Try.underlying36 Try.sizeOf5 b4 (bv_length l) hb b2
  have hsg : Seg (w.alloc (.cells #[] 5)) 5 A (bv (l.take n)) := by rw [bv_take]; exact (b4.take n).below hbl
  have hln : (l.take n).length = n := by rw [List.length_take]; omega
  go_enter Try.func32, Try.ntmps32
  go_wp2_with (at_builtin; refine wpList_append_s _ rfl _ _ _ rfl 5 5 i0 (.int .u8 0) 1 1 Try.underlying36 hi hz0 hz1 hz2 rfl (some ⟨w.heap.size, 0, none⟩) 0 0 [] rfl (OwnS.nil _ _ _ _) A n c (bv (l.take n)) rfl (by rw [bv_length, hln]; omega) hsg (bv_one _) (le_maxLen (by omega)) (by omega) ?_; intro A1 c1 w1 ho1 hu1 hf1; simp only [Nat.zero_add, List.nil_append] at ho1; have e0 : w1.cell? ⟨g, 0, none⟩ = some (.slice A l.length c) := (hu1.blk (b1.alloc _) (by simp [fp])).cell 0; have ef : w1.frozen? ⟨g, 0, none⟩ = false := (hu1.blk (b1.alloc _) (by simp [fp])).frozen 0)
  go_ret
  have hf2 : ∀ k, k ∈ fp A1 c1 → w.heap.size ≤ k := fun k hk => (hf1 k hk).elim (fun h => by simp [fp] at h) (fun h => by simp at h; omega)
  have u1 : Upd [g] w w1 := ((Upd.refl [g] w).alloc _).trans hu1 (by simp [fp])
  have bw := hu1.blk (b1.alloc (.cells #[] 5)) (by simp [fp])
  have b5 := bw.set_ 0 (.slice A2 (l.length - n) (c - n))
  have kk : ∀ T, 76 ≠ T → Keep T w1 (w1.setCell ⟨g, 0, none⟩ (.slice A2 (l.length - n) (c - n))) := fun T hT => (Keep.refl T w1).setCell bw hT 0 _
  refine ⟨A1, c1, rfl, ho1.keep (kk _ (by decide)), hf2, ⟨A2, c - n, by simpa using b5, by simp; omega, trivial, ?_⟩, u1.setCell (.inl (by simp)) _⟩
  rw [bv_drop]
  exact ((hseg.below hbl).upd hu1 (by simp [fp])).keep (kk _ (by decide))
end Go.Proofs.Ytemcpldipjbleaa
