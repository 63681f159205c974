/- The sum of bytes: the program's and the document's. -/
import Derived.Test.YtemcpldipjbleaaLib
import Derived.Test.YtemcpldipjbleaaBytes
namespace Go.Proofs.Ytemcpldipjbleaa
open Go.RowKit

theorem u32_ofInt (a : UInt32) : (BitVec.ofInt 32 (a.toNat : Int)) = a.toBitVec := by
  rw [BitVec.ofInt_natCast]
  apply BitVec.eq_of_toNat_eq
  simp
theorem u32_lt (a : UInt32) : (a.toNat : Int) < 4294967296 := by have := a.toNat_lt; omega
theorem u32_and1 (a : UInt32) : bits .and .u32 (a.toNat : Int) 1 = ((a &&& 1).toNat : Int) := by
  show IntKind.u32.wrap ((BitVec.ofInt 32 (a.toNat : Int) &&& BitVec.ofInt 32 1).toNat : Int) = _
  rw [u32_ofInt, IntKind.wrap_u32', show BitVec.ofInt 32 1 = (1 : UInt32).toBitVec from rfl, ← UInt32.toBitVec_and, UInt32.toNat_toBitVec]
  have := u32_lt (a &&& 1)
  omega
theorem u32_xor (a b : UInt32) : bits .xor .u32 (a.toNat : Int) (b.toNat : Int) = ((a ^^^ b).toNat : Int) := by
  show IntKind.u32.wrap ((BitVec.ofInt 32 (a.toNat : Int) ^^^ BitVec.ofInt 32 (b.toNat : Int)).toNat : Int) = _
  rw [u32_ofInt, u32_ofInt, IntKind.wrap_u32', ← UInt32.toBitVec_xor, UInt32.toNat_toBitVec]
  have := u32_lt (a ^^^ b)
  omega
theorem u32_xorP (a : UInt32) : bits .xor .u32 (a.toNat : Int) 2197175160 = ((a ^^^ 2197175160).toNat : Int) := u32_xor a 2197175160
theorem u32_shr1 (a : UInt32) : (a.toNat : Int) / (2 : Int) = ((a >>> 1).toNat : Int) := by
  rw [UInt32.toNat_shiftRight]
  simp [Nat.shiftRight_eq_div_pow]
theorem u32_xor8 (a : UInt32) (b : UInt8) : bits .xor .u32 (a.toNat : Int) (b.toNat : Int) = ((a ^^^ b.toUInt32).toNat : Int) := by
  have := u32_xor a b.toUInt32
  simpa using this
theorem u32_and1_cases (a : UInt32) : (a &&& 1 = 0 ∧ (a &&& 1).toNat = 0) ∨ (a &&& 1 ≠ 0 ∧ (a &&& 1).toNat = 1) := by
  have h : (a &&& 1).toNat = a.toNat % 2 := by rw [UInt32.toNat_and]; exact Nat.and_one_is_mod _
  rcases Nat.mod_two_eq_zero_or_one a.toNat with h0 | h1
  · left; rw [h0] at h; exact ⟨UInt32.toNat_inj.1 (by simpa using h), h⟩
  · right; rw [h1] at h; exact ⟨fun e => by rw [e] at h; simp at h, h⟩

theorem u32_not (a : UInt32) : bits .xor .u32 IntKind.u32.max (a.toNat : Int) = ((~~~ a).toNat : Int) := by
  have h := u32_xor 4294967295 a
  have e : (4294967295 : UInt32) ^^^ a = ~~~ a := by
    apply UInt32.toBitVec_inj.1
    rw [UInt32.toBitVec_xor, UInt32.toBitVec_not]
    exact BitVec.allOnes_xor
  rw [e] at h
  exact h

def SumK (l : Mp.Bytes) (k : Nat) (v : Value) : Prop := v = .int .u32 ((Mp.crcFrom Mp.crc0 (l.take k)).toNat : Int)
def SumB (c0 : UInt32) (m : Nat) (v : Value) : Prop := ∃ c : UInt32, v = .int .u32 (c.toNat : Int) ∧ Mp.crcBits (8 - m) c = c0

theorem crcFrom_take (l : Mp.Bytes) (c : UInt32) {k : Nat} (h : k < l.length) : Mp.crcFrom c (l.take (k + 1)) = Mp.crcByte (Mp.crcFrom c (l.take k)) l[k] := by
  unfold Mp.crcFrom
  rw [List.take_succ_eq_append_getElem h, List.foldl_append]
  rfl

set_option maxRecDepth 100000 in
set_option maxHeartbeats 400000 in
theorem refSum (A : Option Addr) (l : Mp.Bytes) (c : Nat) (w : World) (hs : Seg w 5 A (bv l)) (hb : l.length ≤ 70368744177664) :
    Calls Try.prog 70 #[.slice A l.length c] w fun e w' => e = .returned (.int .u32 ((Mp.crc l).toNat : Int)) ∧ w = w' := by
  go_enter Try.func70, Try.ntmps70
  go_wp2
  go_loop [3, 4] (fun s i => ∃ k : Nat, k ≤ l.length ∧ i = .int .i64 k ∧ SumK l k s) (fun _ i => l.length - (intOf i).toNat)
  case atStart => exact ⟨0, Nat.zero_le _, rfl, rfl⟩
  case round =>
    obtain ⟨k, hk, rfl, rfl⟩ := hrel
    by_cases hlt : k < l.length
    · obtain ⟨b, o, rfl, hx⟩ := hs.cell (j := k) (by rw [bv_length]; exact hlt)
      obtain ⟨v, hv⟩ : ∃ v, v = l[k] := ⟨_, rfl⟩
      have hx' : w.cell? ⟨b, o + k, none⟩ = some (.int .u8 (v.toNat : Int)) := by rw [hx]; simp [bv, hv]
      have HK := Lib.hid (show Mp.crcFrom Mp.crc0 (l.take (k + 1)) = Mp.crcBits 8 (Mp.crcFrom Mp.crc0 (l.take k) ^^^ v.toUInt32) by rw [crcFrom_take l _ hlt, ← hv]; rfl)
      clear hx hv
      generalize Mp.crcFrom Mp.crc0 (l.take k) = q at *
      have hxor := u32_xor8 q v
      have hv8 := v.toNat_lt
      go_wp2
      go_loop [3, 5] (fun s i => ∃ m : Nat, m ≤ 8 ∧ i = .int .i64 m ∧ SumB (Mp.crcBits 8 (q ^^^ v.toUInt32)) m s) (fun _ i => 8 - (intOf i).toNat)
      case atStart => exact ⟨0, by omega, rfl, _, rfl, rfl⟩
      case round =>
        obtain ⟨m, hm, rfl, d, rfl, hd⟩ := hrel
        by_cases hm8 : m < 8
        · obtain ⟨n, hn⟩ : ∃ n, 8 - m = n + 1 := ⟨7 - m, by omega⟩
          have hn2 : 8 - (m + 1) = n := by omega
          rw [hn] at hd
          rw [Mp.crcBits, ← hn2] at hd
          have HD := Lib.hid hd
          clear hd hn hn2
          obtain ⟨d1, hd1⟩ : ∃ d1, d1 = d >>> 1 := ⟨_, rfl⟩
          obtain ⟨d2, hd2⟩ : ∃ d2, d2 = d1 ^^^ 2197175160 := ⟨_, rfl⟩
          have e1 := u32_and1 d
          have e2 := u32_shr1 d
          have e3 := u32_xorP d1
          rw [← hd1] at e2
          rw [← hd2] at e3
          rcases u32_and1_cases d with ⟨h0, h1⟩ | ⟨h0, h1⟩
          · rw [h1] at e1
            have HB := Lib.hid (show Mp.crcBit d = d1 by unfold Mp.crcBit; rw [if_pos h0, hd1])
            clear h0 h1 hd1 hd2
            go_wp2
            exact ⟨⟨m + 1, by omega, by go_num, d1, rfl, by rw [← HB.out]; exact HD.out⟩, by simp [intOf]; omega⟩
          · rw [h1] at e1
            have HB := Lib.hid (show Mp.crcBit d = d2 by unfold Mp.crcBit; rw [if_neg h0, hd2, hd1])
            clear h0 h1 hd1 hd2
            go_wp2
            exact ⟨⟨m + 1, by omega, by go_num, d2, rfl, by rw [← HB.out]; exact HD.out⟩, by simp [intOf]; omega⟩
        · obtain rfl : m = 8 := by omega
          have HD := Lib.hid (show d = _ from hd)
          clear hd
          go_wp2
          exact ⟨⟨k + 1, by omega, by go_num, by unfold SumK; rw [HK.out, ← HD.out]⟩, by simp [intOf]; omega⟩
    · have hk2 : l.take k = l := List.take_of_length_le (by omega)
      rw [hk2]
      clear hk2
      go_wp2
      go_ret
      exact ⟨congrArg (fun n => Ending.returned (.int .u32 n)) (u32_not _), rfl⟩

set_option maxRecDepth 100000 in
set_option maxHeartbeats 400000 in
theorem sum_any (A Ab : Option Addr) (l : Mp.Bytes) (c cb : Nat) (w : World) (ha : Seg w 36 A [.slice Ab l.length cb]) (hs : Seg w 5 Ab (bv l)) (hb : l.length ≤ 70368744177664) :
    Calls Try.prog 71 #[.slice A 1 c] w fun e w' => e = .returned (.int .u32 ((Mp.crc l).toNat : Int)) ∧ w = w' := by
  obtain ⟨b1, o1, rfl, hx1⟩ := ha.cell (j := 0) (by simp)
  simp at hx1
  go_enter Try.func71, Try.ntmps71
  go_wp2
  go_loop [3, 11] (fun s i => ∃ k : Nat, k ≤ 1 ∧ i = .int .i64 k ∧ s = .int .u32 ((Mp.crcFrom Mp.crc0 (if k = 0 then [] else l)).toNat : Int)) (fun _ i => 1 - (intOf i).toNat)
  case atStart => exact ⟨0, by omega, rfl, rfl⟩
  case round =>
    obtain ⟨j, hj, rfl, rfl⟩ := hrel
    by_cases hj1 : j < 1
    · obtain rfl : j = 0 := by omega
      go_wp2
      go_loop [3, 17] (fun s i => ∃ k : Nat, k ≤ l.length ∧ i = .int .i64 k ∧ SumK l k s) (fun _ i => l.length - (intOf i).toNat)
      case atStart => exact ⟨0, Nat.zero_le _, rfl, rfl⟩
      case round =>
        obtain ⟨k, hk, rfl, rfl⟩ := hrel
        by_cases hlt : k < l.length
        · obtain ⟨b, o, rfl, hx⟩ := hs.cell (j := k) (by rw [bv_length]; exact hlt)
          obtain ⟨v, hv⟩ : ∃ v, v = l[k] := ⟨_, rfl⟩
          have hx' : w.cell? ⟨b, o + k, none⟩ = some (.int .u8 (v.toNat : Int)) := by rw [hx]; simp [bv, hv]
          have HK := Lib.hid (show Mp.crcFrom Mp.crc0 (l.take (k + 1)) = Mp.crcBits 8 (Mp.crcFrom Mp.crc0 (l.take k) ^^^ v.toUInt32) by rw [crcFrom_take l _ hlt, ← hv]; rfl)
          clear hx hv
          generalize Mp.crcFrom Mp.crc0 (l.take k) = q at *
          have hxor := u32_xor8 q v
          have hv8 := v.toNat_lt
          go_wp2
          go_loop [3, 25] (fun s i => ∃ m : Nat, m ≤ 8 ∧ i = .int .i64 m ∧ SumB (Mp.crcBits 8 (q ^^^ v.toUInt32)) m s) (fun _ i => 8 - (intOf i).toNat)
          case atStart => exact ⟨0, by omega, rfl, _, rfl, rfl⟩
          case round =>
            obtain ⟨m, hm, rfl, d, rfl, hd⟩ := hrel
            by_cases hm8 : m < 8
            · obtain ⟨n, hn⟩ : ∃ n, 8 - m = n + 1 := ⟨7 - m, by omega⟩
              have hn2 : 8 - (m + 1) = n := by omega
              rw [hn] at hd
              rw [Mp.crcBits, ← hn2] at hd
              have HD := Lib.hid hd
              clear hd hn hn2
              obtain ⟨d1, hd1⟩ : ∃ d1, d1 = d >>> 1 := ⟨_, rfl⟩
              obtain ⟨d2, hd2⟩ : ∃ d2, d2 = d1 ^^^ 2197175160 := ⟨_, rfl⟩
              have e1 := u32_and1 d
              have e2 := u32_shr1 d
              have e3 := u32_xorP d1
              rw [← hd1] at e2
              rw [← hd2] at e3
              rcases u32_and1_cases d with ⟨h0, h1⟩ | ⟨h0, h1⟩
              · rw [h1] at e1
                have HB := Lib.hid (show Mp.crcBit d = d1 by unfold Mp.crcBit; rw [if_pos h0, hd1])
                clear h0 h1 hd1 hd2
                go_wp2
                exact ⟨⟨m + 1, by omega, by go_num, d1, rfl, by rw [← HB.out]; exact HD.out⟩, by simp [intOf]; omega⟩
              · rw [h1] at e1
                have HB := Lib.hid (show Mp.crcBit d = d2 by unfold Mp.crcBit; rw [if_neg h0, hd2, hd1])
                clear h0 h1 hd1 hd2
                go_wp2
                exact ⟨⟨m + 1, by omega, by go_num, d2, rfl, by rw [← HB.out]; exact HD.out⟩, by simp [intOf]; omega⟩
            · obtain rfl : m = 8 := by omega
              have HD := Lib.hid (show d = _ from hd)
              clear hd
              go_wp2
              exact ⟨⟨k + 1, by omega, by go_num, by unfold SumK; rw [HK.out, ← HD.out]⟩, by simp [intOf]; omega⟩
        · have hk2 : l.take k = l := List.take_of_length_le (by omega)
          rw [hk2]
          clear hk2
          go_wp2
          exact ⟨⟨1, by omega, rfl, rfl⟩, by simp [intOf]⟩
    · obtain rfl : j = 1 := by omega
      go_wp2
      go_ret
      exact ⟨congrArg (fun n => Ending.returned (.int .u32 n)) (u32_not _), rfl⟩
end Go.Proofs.Ytemcpldipjbleaa
