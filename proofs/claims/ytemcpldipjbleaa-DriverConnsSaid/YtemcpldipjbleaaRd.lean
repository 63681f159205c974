/- octets: the reader, function by function. -/
import Derived.Test.YtemcpldipjbleaaOct
namespace Go.Proofs.Ytemcpldipjbleaa
open Go.RowKit

/-- block g is a reader with the bytes s.1 left, spoilt or not -/
def IsR (w : World) (B g : Nat) (s : Mp.Bytes × Bool) : Prop :=
  B ≤ g ∧ ∃ A c, Blk w g 139 #[.slice A s.1.length c, .bool s.2] ∧ s.1.length ≤ c ∧ c ≤ maxLen ∧ Seg w 5 A (bv s.1)
theorem IsR.below {w w' : World} {B g : Nat} {s : Mp.Bytes × Bool} (h : IsR w B g s) (hb : Below w.heap.size w w') : IsR w' B g s := by
  obtain ⟨h0, A, c, h1, h2, h3, h4⟩ := h
  exact ⟨h0, A, c, (Upd.of_below hb []).blk h1 (by simp), h2, h3, h4.below hb⟩
theorem IsR.lt {w : World} {B g : Nat} {s : Mp.Bytes × Bool} (h : IsR w B g s) : B ≤ w.heap.size := by
  obtain ⟨h0, A, c, h1, _⟩ := h
  have := h1.lt
  omega

/-- new bytes are handed back, and the reader has turned -/
def ReadOff (w : World) (B g : Nat) (out : Mp.Bytes) (s : Mp.Bytes × Bool) (e : Ending) (w' : World) : Prop :=
  ∃ A' c', e = .returned (.slice A' out.length c') ∧ OwnS w' 5 1 A' out.length c' (bv out) ∧ (∀ k, k ∈ fp A' c' → w.heap.size ≤ k) ∧ IsR w' B g s ∧ Below B w w' ∧ Upd [g] w w'

set_option maxRecDepth 100000 in
set_option maxHeartbeats 400000 in
theorem rRaw {w : World} {B g : Nat} {s : Mp.Bytes × Bool} (hr : IsR w B g s) (n : Int) (hb : s.1.length ≤ 70368744177664) :
    Calls Try.prog 56 #[.pointer (some ⟨g, 0, none⟩), .int .i64 n] w (ReadOff w B g (Mp.rraw n s).1 (Mp.rraw n s).2) := by
  obtain ⟨h0, A, c, h1, h2, h3, h4⟩ := id hr
  obtain ⟨l, sp⟩ := s
  have c0 := h1.cell 0
  have c1 := h1.cell 1
  have f0 := h1.frozen 0
  have f1 := h1.frozen 1
  simp at c0 c1
  cases sp
  · by_cases hn : n < 0 ∨ (l.length : Int) < n
    · have hs : Mp.rraw n (l, false) = ([], (l, true)) := by simp [Mp.rraw, hn]
      have HS := Lib.hid hs
      clear hs
      have hfin : ∀ w1, w1 = w.setCell ⟨g, 1, none⟩ (.bool true) → ReadOff w B g [] (l, true) (.returned (.slice none 0 0)) w1 := by
        rintro w1 rfl
        refine ⟨none, 0, rfl, OwnS.nil _ _ _ _, by simp [fp], ⟨h0, A, c, by simpa using h1.set_ 1 (.bool true), h2, h3, ?_⟩, (Below.refl _ _).setCell h0 _, (Upd.refl _ _).setCell (.inl (by simp)) _⟩
        exact h4.keep ((Keep.refl _ _).setCell h1 (by decide) 1 _)
      rw [HS.out]
      by_cases hn0 : n < 0
      · go_enter Try.func56, Try.ntmps56
        go_wp2
        go_ret
        exact hfin _ rfl
      · have hn1 : (l.length : Int) < n := by omega
        clear hn
        go_enter Try.func56, Try.ntmps56
        go_wp2
        go_ret
        exact hfin _ rfl
    · obtain ⟨k, rfl⟩ : ∃ k : Nat, n = (k : Int) := ⟨n.toNat, by omega⟩
      have hk : k ≤ l.length := by omega
      have hk2 : (k : Int) ≤ (l.length : Int) := by omega
      have hs : Mp.rraw k (l, false) = (l.take k, (l.drop k, false)) := by
        unfold Mp.rraw
        rw [if_neg (by simp), if_neg hn]
        simp
      clear hn
      have HS := Lib.hid hs
      clear hs
      rw [HS.out]
      have HC := Lib.hid (cloneB A k c (bv (l.take k)) w (by rw [bv_length, List.length_take]; omega) (by rw [bv_take]; exact h4.take k) (bv_one _) (by simp at hb; omega))
      have hkc : (k : Int) ≤ (c : Int) := by simp at h2; omega
      have hk0 : (0 : Int) ≤ (k : Int) := by omega
      obtain ⟨A2, hcut, hseg, _⟩ := cutFrom (k := k) Try.underlying36 Try.sizeOf5 h4 (bv_length l) hk h2
      go_enter Try.func56, Try.ntmps56
      go_wp2_with (go_at_call 69; refine HC.out.mono ?_; rintro e w1 ⟨A', c', rfl, ho, hbl, hf⟩; have c0' := hbl.cell (p := ⟨g, 0, none⟩) h1.lt; have f0' := hbl.frozen (p := ⟨g, 0, none⟩) h1.lt)
      go_ret
      have hlt := h1.lt
      have htk : (l.take k).length = k := by rw [List.length_take]; omega
      have hdk : l.length - k = (l.drop k).length := by simp
      have h1' := (Upd.of_below hbl []).blk h1 (by simp)
      refine ⟨A', c', (show Ending.returned (.slice A' k c') = Ending.returned (.slice A' (l.take k).length c') by rw [htk]), by rw [htk]; exact ho.upd ((Upd.refl [g] w1).setCell (.inl (by simp)) _) (fun j hj e => by simp at e; subst e; have := hf _ hj; omega), hf, ⟨h0, A2, c - k, ?_, ?_, ?_, ?_⟩, (hbl.mono (by omega)).setCell h0 _, (Upd.of_below hbl _).setCell (.inl (by simp)) _⟩
      · have := h1'.set_ 0 (.slice A2 (l.length - k) (c - k))
        rw [hdk] at this
        simpa using this
      · simp at h2 ⊢; omega
      · exact Nat.le_trans (Nat.sub_le _ _) h3
      · rw [bv_drop]
        exact ((hseg.below hbl).keep ((Keep.refl _ _).setCell h1' (by decide) 0 _))
  · have hs : Mp.rraw n (l, true) = ([], (l, true)) := by simp [Mp.rraw]
    have HS := Lib.hid hs
    clear hs
    rw [HS.out]
    go_enter Try.func56, Try.ntmps56
    go_wp2
    go_ret
    exact ⟨none, 0, rfl, OwnS.nil _ _ _ _, by simp [fp], hr, Below.refl _ _, Upd.refl _ _⟩

theorem rRead {w : World} (A : Option Addr) (l : Mp.Bytes) (c : Nat) (hs : Seg w 5 A (bv l)) (hb : l.length ≤ 70368744177664) :
    Calls Try.prog 54 #[.slice A l.length c] w fun e w' => ∃ g, e = .returned (.pointer (some ⟨g, 0, none⟩)) ∧ IsR w' w.heap.size g (l, false) ∧ Below w.heap.size w w' := by
  have HC := Lib.hid (cloneB A l.length c (bv l) w (bv_length l) hs (bv_one l) (by omega))
  go_enter Try.func54, Try.ntmps54
  go_wp2_with (go_at_call 69; refine HC.out.mono ?_; rintro e w1 ⟨A', c', rfl, ho, hbl, hf⟩)
  go_ret
  refine ⟨_, rfl, ⟨hbl.size, A', c', Blk.new _ _ _, ho.le, ho.cap_le, ho.seg.below ((Below.refl _ _).alloc (Nat.le_refl _) _)⟩, hbl.alloc hbl.size _⟩

theorem rLeft {w : World} {B g : Nat} {s : Mp.Bytes × Bool} (hr : IsR w B g s) :
    Calls Try.prog 57 #[.pointer (some ⟨g, 0, none⟩)] w fun e w' => e = .returned (.int .i64 (Mp.rleft s)) ∧ w = w' := by
  obtain ⟨h0, A, c, h1, h2, h3, h4⟩ := hr
  obtain ⟨l, sp⟩ := s
  have c0 := h1.cell 0
  have c1 := h1.cell 1
  simp at c0 c1
  cases sp
  · go_enter Try.func57, Try.ntmps57
    go_wp2
    go_ret
    exact ⟨by simp [Mp.rleft], rfl⟩
  · go_enter Try.func57, Try.ntmps57
    go_wp2
    go_ret
    exact ⟨by simp [Mp.rleft], rfl⟩

theorem ofInt_i64 (a : Nat) (ha : a < 9223372036854775808) : (BitVec.ofInt 64 (a : Int)).toNat = a := by
  rw [BitVec.ofInt_natCast, BitVec.toNat_ofNat]; exact Nat.mod_eq_of_lt (by omega)
theorem i64_or_nat (a b : Nat) (ha : a < 9223372036854775808) (hb : b < 9223372036854775808) : bits .or .i64 (a : Int) (b : Int) = ((a ||| b : Nat) : Int) := by
  have hx : a ||| b < 2 ^ 63 := Nat.or_lt_two_pow (by omega) (by omega)
  show IntKind.i64.wrap ((BitVec.ofInt 64 (a : Int) ||| BitVec.ofInt 64 (b : Int)).toNat : Int) = _
  rw [BitVec.toNat_or, ofInt_i64 a ha, ofInt_i64 b hb, IntKind.wrap_i64]
  omega
/-- n << 8 | b -/
theorem shl8_or (n : Int) (b : UInt8) (h0 : 0 ≤ n) (h1 : n < 36028797018963968) : bits .or .i64 (n * 256) (b.toNat : Int) = n * 256 + b.toNat := by
  obtain ⟨m, rfl⟩ := Int.eq_ofNat_of_zero_le h0
  have hb := b.toNat_lt
  have e : (m : Int) * 256 = ((m * 256 : Nat) : Int) := by omega
  rw [e, i64_or_nat _ _ (by omega) (by omega)]
  have : m * 256 ||| b.toNat = m * 256 + b.toNat := by
    have := Nat.shiftLeft_add_eq_or_of_lt (a := m) (b := b.toNat) (i := 8) (by omega)
    rw [Nat.shiftLeft_eq] at this
    exact this.symm
  rw [this]; omega
theorem wrap64_small {n : Int} (h0 : -9223372036854775808 ≤ n) (h1 : n ≤ 9223372036854775807) : wrap64 n = n := IntWalk.wrap64_in n ⟨h0, h1⟩

set_option maxRecDepth 100000 in
set_option maxHeartbeats 400000 in
theorem rNum {w : World} {B g : Nat} {s : Mp.Bytes × Bool} (hr : IsR w B g s) (size : Int) (h1 : 1 ≤ size) (h7 : size ≤ 7) (hb : s.1.length ≤ 70368744177664) :
    Calls Try.prog 55 #[.pointer (some ⟨g, 0, none⟩), .int .i64 size] w fun e w' => e = .returned (.int .i64 (Mp.rnum size s).1) ∧ IsR w' B g (Mp.rnum size s).2 ∧ Below B w w' ∧ Upd [g] w w' := by
  have d1 : decide (size < 1) = false := by simp; omega
  have d7 : decide (7 < size) = false := by simp; omega
  have HC := Lib.hid (rRaw hr size hb)
  have hrn : (Mp.rraw size s).1.length ≤ 7 := by
    unfold Mp.rraw
    split
    · simp
    · split
      · simp
      · simp; omega
  unfold Mp.rnum
  generalize hout : (Mp.rraw size s).1 = out at *
  generalize hs' : (Mp.rraw size s).2 = s' at *
  clear hout hs'
  go_enter Try.func55, Try.ntmps55
  go_wp2_with (go_at_call 56; refine HC.out.mono ?_; rintro e w1 ⟨A', c', rfl, ho, hf, hr', hbl, hup⟩)
  go_loop [4, 17] (fun t i => ∃ k : Nat, k ≤ out.length ∧ i = .int .i64 k ∧ t = .int .i64 (Mp.num (out.take k))) (fun _ i => out.length - (intOf i).toNat)
  case atStart => exact ⟨0, Nat.zero_le _, rfl, by simp [Mp.num]⟩
  case round =>
    obtain ⟨k, hk, rfl, rfl⟩ := hrel
    by_cases hlt : k < out.length
    · obtain ⟨b, o, rfl, hx⟩ := ho.seg.cell (j := k) (by rw [bv_length]; exact hlt)
      obtain ⟨v, hv⟩ : ∃ v, v = out[k] := ⟨_, rfl⟩
      have hx' : w1.cell? ⟨b, o + k, none⟩ = some (.int .u8 (v.toNat : Int)) := by rw [hx]; simp [bv, hv]
      have HK : Hid (Mp.num (out.take (k + 1)) = Mp.num (out.take k) * 256 + v.toNat) := by
        have : out.take (k + 1) = out.take k ++ [v] := by rw [List.take_succ_eq_append_getElem hlt, hv]
        rw [this]; exact Lib.hid (Mp.num_append _ _)
      clear hx hv
      obtain ⟨n0, n1⟩ := Mp.num_bounds (out.take k)
      generalize Mp.num (out.take k) = q at *
      have hq : q < 281474976710656 := by
        have : (256 : Int) ^ (out.take k).length ≤ 256 ^ 6 := Mp.pow256_le (by rw [List.length_take]; omega)
        omega
      clear n1
      have hv8 := v.toNat_lt
      go_wp2
      refine ⟨⟨k + 1, by omega, by go_num, ?_⟩, by simp [intOf]; omega⟩
      rw [shl8_or q v n0 (by omega), HK.out]
    · have hk2 : out.take k = out := List.take_of_length_le (by omega)
      rw [hk2]
      clear hk2
      go_wp2
      go_ret
      exact ⟨rfl, hr', hbl, hup⟩
end Go.Proofs.Ytemcpldipjbleaa
