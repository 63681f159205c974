/- Frames: the program's and the document's Wrap. -/
import Derived.Test.YtemcpldipjbleaaRd
import Derived.Test.YtemcpldipjbleaaSum
namespace Go.Proofs.Ytemcpldipjbleaa
open Go.RowKit

/-- bytes are handed back, in memory of their own, or an error -/
def RetB (w : World) (r : Option Mp.Bytes) (e : Ending) (w' : World) : Prop :=
  Below w.heap.size w w' ∧ match r with
  | none => e = .returned (.tuple #[.slice none 0 0, .int .i64 1])
  | some l => ∃ A' c', e = .returned (.tuple #[.slice A' l.length c', .int .i64 0]) ∧ OwnS w' 5 1 A' l.length c' (bv l) ∧ ∀ k, k ∈ fp A' c' → w.heap.size ≤ k

theorem RetB.mono {w w1 w' : World} {r : Option Mp.Bytes} {e : Ending} (hb : Below w.heap.size w w1) (h : RetB w1 r e w') : RetB w r e w' := by
  obtain ⟨h1, h2⟩ := h
  refine ⟨hb.trans (h1.mono hb.size), ?_⟩
  cases r with
  | none => exact h2
  | some l =>
    obtain ⟨A, c, he, ho, hf⟩ := h2
    exact ⟨A, c, he, ho, fun k hk => Nat.le_trans hb.size (hf k hk)⟩
theorem RetB.form {w w' : World} {r : Option Mp.Bytes} {e : Ending} (h : RetB w r e w') : ∃ A n c k, e = .returned (.tuple #[.slice A n c, .int .i64 k]) ∧ RetB w r (.returned (.tuple #[.slice A n c, .int .i64 k])) w' := by
  have h' := h
  obtain ⟨_, h2⟩ := h
  cases r with
  | none => subst h2; exact ⟨_, _, _, _, rfl, h'⟩
  | some l => obtain ⟨A, c, rfl, _⟩ := h2; exact ⟨_, _, _, _, rfl, h'⟩
theorem Seg.alloc {w : World} {T : TypeId} {A : Option Addr} {xs : List Value} (h : Seg w T A xs) (o : Obj) : Seg (w.alloc o) T A xs := h.below ((Below.refl _ _).alloc (Nat.le_refl _) _)
theorem Below.allocs {B : Nat} {a w : World} (h : Below B a w) (hB : B ≤ w.heap.size) (o : Obj) : Below B a (w.alloc o) := h.alloc hB o

set_option maxRecDepth 100000 in
set_option maxHeartbeats 1000000 in
theorem frameWrap (kind : Int) (A : Option Addr) (l : Mp.Bytes) (c : Nat) (w : World) (hs : Seg w 5 A (bv l)) (hk : -9223372036854775808 ≤ kind) (hk2 : kind ≤ 9223372036854775807) (hb : l.length ≤ 70368744177664) :
    Calls Try.prog 74 #[.int .i64 kind, .slice A l.length c] w (RetB w (Mp.wrap kind l)) := by
  by_cases hbad : kind < 0 ∨ 255 < kind ∨ 2000 < l.length
  · have HW := Lib.hid (show Mp.wrap kind l = none by unfold Mp.wrap; rw [if_pos hbad])
    rw [HW.out]
    by_cases h1 : kind < 0
    · clear hbad
      go_enter Try.func74, Try.ntmps74
      go_wp2
      go_ret2
      exact ⟨Below.refl _ _, rfl⟩
    · by_cases h2 : 255 < kind
      · clear hbad
        go_enter Try.func74, Try.ntmps74
        go_wp2
        go_ret2
        exact ⟨Below.refl _ _, rfl⟩
      · have h3 : 2000 < l.length := by omega
        clear hbad
        go_enter Try.func74, Try.ntmps74
        go_wp2
        go_ret2
        exact ⟨Below.refl _ _, rfl⟩
  · have HW := Lib.hid (show Mp.wrap kind l = some (Mp.summed (Mp.headed kind l)) by unfold Mp.wrap; rw [if_neg hbad])
    rw [HW.out]
    have d1 : decide (kind < 0) = false := by simp; omega
    have d2 : decide (255 < kind) = false := by simp; omega
    have d3 : decide (2000 < l.length) = false := by simp; omega
    have k0 : 0 ≤ kind := by omega
    have k1 : kind ≤ 255 := by omega
    have k2 : l.length ≤ 2000 := by omega
    clear hbad hk hk2
    go_enter Try.func74, Try.ntmps74
    go_wp2_with fail
    refine (wNums (IsW.alloc (IsW.new w) _) 1 (by omega) (by omega) (some ⟨w.heap.size + 1, 0, none⟩) [77, 3, kind] 3 3 rfl ?_ (by simp)).mono ?_
    · exact Seg.newAt _ _ (iv [77, 3, kind]) _ (by simp)
    rintro e w1 ⟨rfl, hw1, hb1⟩
    rw [Mp.nums_head1 k0 k1] at hw1
    have b1 : Below w.heap.size w w1 := ((((Below.refl _ w).alloc (Nat.le_refl _) _).alloc (by simp) _).trans hb1)
    clear hb1
    go_wp2_with fail
    refine (wNums (IsW.alloc hw1 _) 2 (by omega) (by omega) (some ⟨w1.heap.size, 0, none⟩) [(l.length : Int)] 1 1 rfl ?_ (by simp [Mp.be_length])).mono ?_
    · exact Seg.newAt _ _ (iv [(l.length : Int)]) _ rfl
    rintro e w2 ⟨rfl, hw2, hb2⟩
    rw [Mp.nums_head2 k2] at hw2
    have b2 : Below w.heap.size w w2 := (b1.alloc b1.size _).trans hb2
    clear hb2 hw1
    go_wp2_with fail
    refine (wRaw hw2 A l c (hs.below b2) (by simp [Mp.be_length]; omega)).mono ?_
    rintro e w3 ⟨rfl, hw3, hb3⟩
    have b3 : Below w.heap.size w w3 := b2.trans hb3
    clear hb3 hw2
    change IsW w3 _ _ (Mp.headed kind l, false) at hw3
    obtain ⟨L, hL⟩ : ∃ L, L = Mp.headed kind l := ⟨_, rfl⟩
    have hLl : L.length ≤ 2005 := by rw [hL, Mp.headed_length]; omega
    rw [← hL] at hw3
    have HHL := Lib.hid hL
    clear hL
    go_wp2_with fail
    refine (wBytes hw3 (by simp; omega)).mono ?_
    rintro e w4 ⟨A4, c4, rfl, ho4, hb4, hf4⟩
    have b4 : Below w.heap.size w w4 := b3.trans (hb4.mono b3.size)
    have hw4 := hw3.below hb4
    clear hb4 hw3
    simp only at ho4
    go_wp2_with fail
    refine (sum_any _ A4 L 1 c4 _ (Seg.newAt _ _ [.slice A4 L.length c4] _ rfl) (ho4.seg.alloc _) (by omega)).mono ?_
    rintro e w5 ⟨rfl, rfl⟩
    have hw5 := hw4.alloc (.cells #[.slice A4 L.length c4] 36)
    have b5 : Below w.heap.size w (w4.alloc (.cells #[.slice A4 L.length c4] 36)) := b4.alloc b4.size _
    have hN3 := Mp.nums_sum L
    have hq := u32_lt (Mp.crc L)
    generalize hQ : (Mp.crc L).toNat = q at hN3 hq ⊢
    have HN3 := Lib.hid hN3
    clear hN3 hQ
    generalize w4.alloc (.cells #[.slice A4 L.length c4] 36) = w5 at hw5 b5 ⊢
    go_wp2_with fail
    refine (wNums (IsW.alloc hw5 _) 4 (by omega) (by omega) (some ⟨w5.heap.size, 0, none⟩) [(q : Int)] 1 1 rfl ?_ (by simp; omega)).mono ?_
    · exact Seg.newAt _ _ (iv [(q : Int)]) _ rfl
    rintro e w6 ⟨rfl, hw6, hb6⟩
    rw [HN3.out] at hw6
    have b6 : Below w.heap.size w w6 := (b5.alloc b5.size _).trans hb6
    clear hb6 hw5
    go_wp2_with fail
    refine (wBytes hw6 (by rw [Mp.summed_length]; omega)).mono ?_
    rintro e w7 ⟨A7, c7, rfl, ho7, hb7, hf7⟩
    simp only at ho7
    go_wp2
    go_ret2
    rw [← HHL.out]
    exact ⟨b6.trans (hb7.mono b6.size), A7, c7, rfl, ho7, fun k hk => Nat.le_trans b6.size (hf7 k hk)⟩
end Go.Proofs.Ytemcpldipjbleaa
