/- milepostref1.Writer.Num; Reader.Num and Raw where they fail. -/
import Derived.Test.YtemcpldipjbleaaRefW
import Derived.Test.YtemcpldipjbleaaDec
namespace Go.Proofs.Ytemcpldipjbleaa
open Go.RowKit

/-- block g is the document's writer that holds the bytes s.1, spoilt or not; all that is its own lies from block B on -/
def IsV (w : World) (B g : Nat) (s : Mp.Bytes × Bool) : Prop :=
  B ≤ g ∧ ∃ A cap, Blk w g 80 #[.slice A s.1.length cap, .bool s.2] ∧ OwnS w 5 1 A s.1.length cap (bv s.1) ∧ ∀ k, k ∈ fp A cap → B ≤ k
theorem IsV.below {w w' : World} {B g : Nat} {s : Mp.Bytes × Bool} (h : IsV w B g s) (hb : Below w.heap.size w w') : IsV w' B g s := by
  obtain ⟨h0, A, cap, h1, h2, h3⟩ := h
  exact ⟨h0, A, cap, (Upd.of_below hb []).blk h1 (by simp), h2.below hb, h3⟩
theorem IsV.drew {w : World} {B g : Nat} {s : Mp.Bytes × Bool} (h : IsV w B g s) : IsV w.drew B g s := h.below ((Below.refl _ _).drew)
theorem IsV.alloc {w : World} {B g : Nat} {s : Mp.Bytes × Bool} (h : IsV w B g s) (o : Obj) : IsV (w.alloc o) B g s := h.below ((Below.refl _ _).alloc (Nat.le_refl _) _)
theorem IsV.lt {w : World} {B g : Nat} {s : Mp.Bytes × Bool} (h : IsV w B g s) : B ≤ w.heap.size := by
  obtain ⟨h0, A, cap, h1, h2, h3⟩ := h
  have := h1.lt
  omega
theorem IsV.newAt (w : World) (g : Nat) (hg : g = w.heap.size) : IsV (w.alloc (.cells #[.slice none 0 0, .bool false] 80)) g g ([], false) := by
  subst hg; exact ⟨Nat.le_refl _, none, 0, Blk.new w _ _, OwnS.nil _ _ _ _, by simp [fp]⟩
theorem IsV.wrote {w : World} {B g n : Nat} {x : Value} {sp : Bool} {A : Option Addr} {cap : Nat} {l : List UInt8} (h0 : B ≤ g) (h1 : Blk w g 80 #[x, .bool sp]) (h2 : OwnS w 5 1 A n cap (bv l)) (h3 : ∀ k, k ∈ fp A cap → B ≤ k) (hn : n = l.length) :
    IsV (w.setCell ⟨g, 0, none⟩ (.slice A n cap)) B g (l, sp) := by
  subst hn
  exact ⟨h0, A, cap, by simpa using h1.set_ 0 (.slice A l.length cap), h2.upd (((Upd.refl [g] w)).setCell (.inl (by simp)) _) (fun k hk e => by simp at e; subst e; exact h2.fp_ne h1 (by decide) hk), h3⟩
/-- rows of other elements than bytes, and that are no such writers, stay -/
def KeepV (w w' : World) : Prop := ∀ T : TypeId, T ≠ 5 → T ≠ 80 → Keep T w w'

/-- j bytes of x are still to come -/
def VNumJ (w : World) (B g : Nat) (l : Mp.Bytes) (sp : Bool) (x : Int) (size j : Nat) (wr : World) : Prop :=
  ∃ l', IsV wr B g (l', sp) ∧ l' ++ Mp.be x j = l ++ Mp.be x size ∧ l'.length ≤ l.length + 7 ∧ Below B w wr ∧ KeepV w wr

set_option maxRecDepth 100000 in
set_option maxHeartbeats 1000000 in
theorem refPut {w : World} {B g : Nat} {s : Mp.Bytes × Bool} (hw : IsV w B g s) (size : Int) (h1 : 1 ≤ size) (h7 : size ≤ 7) (x : Int) (hfit : Mp.fits size x = true) (hb : s.1.length ≤ 70368744177664) :
    Calls Try.prog 35 #[.pointer (some ⟨g, 0, none⟩), .int .i64 size, .int .i64 x] w fun e w' => e = .returned (.tuple #[]) ∧ IsV w' B g (s.1 ++ Mp.be x size.toNat, s.2) ∧ Below B w w' ∧ KeepV w w' := by
  obtain ⟨i0, hi, hz0, hz1, hz2⟩ := info_parts u8info
  have hok : Mp.okSize size = true := by simp [Mp.okSize]; omega
  have HS := Lib.hid (refSize size w)
  rw [hok] at HS
  have hx0 : 0 ≤ x := by simp [Mp.fits] at hfit; omega
  have hdz : x / 2 ^ (8 * size).toNat = 0 := by
    have hp : ¬ 0 < x / 2 ^ (8 * size).toNat := fun h => by rw [(Mp.fits_iff h1 hx0).2 h] at hfit; cases hfit
    have : 0 ≤ x / 2 ^ (8 * size).toNat := Int.ediv_nonneg hx0 (Int.le_of_lt (Int.pow_pos (by decide)))
    omega
  have hd : (x / 2 ^ (8 * size).toNat != 0) = false := by rw [hdz]; rfl
  have d0 : decide (x < 0) = false := by simp; omega
  clear hfit hok hdz
  go_enter Try.func35, Try.ntmps35
  go_wp2_with (go_at_call 52; (with_reducible refine HS.out.mono ?_); rintro e w1 ⟨rfl, rfl⟩)
  go_loopw [6] (fun i w2 => ∃ j : Nat, j ≤ size.toNat ∧ i = .int .i64 ((j : Int) - 1) ∧ VNumJ w B g s.1 s.2 x size.toNat j w2) (fun i _ => ((intOf i) + 1).toNat)
  case atStart => exact ⟨size.toNat, Nat.le_refl _, by rw [Int.toNat_of_nonneg (by omega)], s.1, hw, rfl, by omega, Below.refl _ _, fun _ _ _ => Keep.refl _ _⟩
  case round =>
    obtain ⟨j, hj, rfl, l', hw2, hl2, hll, hbl2, hkp2⟩ := hrel
    rcases Nat.eq_zero_or_pos j with rfl | hj0
    · have HL2 := Lib.hid hl2
      clear hl2
      go_wp2
      go_end0
      refine ⟨rfl, ?_, hbl2, hkp2⟩
      rw [← HL2.out]
      simpa [Mp.be] using hw2
    · obtain ⟨m, rfl⟩ : ∃ m, j = m + 1 := ⟨j - 1, by omega⟩
      have HL2 := Lib.hid hl2
      clear hl2
      rw [show (((m + 1 : Nat) : Int) - 1) = (m : Int) from by omega]
      obtain ⟨h0, A1, cap1, e1, e2, e3⟩ := id hw2
      have k0 := e1.cell 0
      have kf := e1.frozen 0
      simp at k0
      have hgn := e2.fp_ne e1 (by decide)
      have hgl := e1.lt
      have E5 := Lib.hid (show OwnS (wr.alloc (.cells #[.int .u8 (IntKind.u8.wrap (x / 2 ^ (8 * (m : Int)).toNat))] 5)).drew 5 1 A1 l'.length cap1 (bv l') from e2.below ((Below.refl _ _).alloc (Nat.le_refl _) _).drew)
      have E6 := Lib.hid (Seg.new_drew wr 5 [.int .u8 (IntKind.u8.wrap (x / 2 ^ (8 * (m : Int)).toNat))])
      have H7 := Lib.hid (show l'.length + 1 ≤ maxLen from le_maxLen (by omega))
      have H8 := Lib.hid (show (l'.length + 1) * 1 ≤ 140737488355328 by omega)
      have E9 := Lib.hid (show ∀ w3, Upd (fp A1 cap1) (wr.alloc (.cells #[.int .u8 (IntKind.u8.wrap (x / 2 ^ (8 * (m : Int)).toNat))] 5)).drew w3 → w3.cell? ⟨g, 0, none⟩ = some (.slice A1 l'.length cap1) from fun w3 hu => by simpa using (hu.blk (e1.alloc _).drew hgn).cell 0)
      have E10 := Lib.hid (show ∀ w3, Upd (fp A1 cap1) (wr.alloc (.cells #[.int .u8 (IntKind.u8.wrap (x / 2 ^ (8 * (m : Int)).toNat))] 5)).drew w3 → w3.frozen? ⟨g, 0, none⟩ = false from fun w3 hu => (hu.blk (e1.alloc _).drew hgn).frozen 0)
      have hw8 : IntKind.i64.wrap (8 * (m : Int)) = 8 * (m : Int) := IntWalk.i64_in _ (by omega)
      have q1 : (0 : Int) ≤ 8 * (m : Int) := by omega
      have q2 : 8 * (m : Int) ≤ 64 := by omega
      go_wp2
      go_region_law (refine step_append_s (wr.alloc (.cells #[.int .u8 (IntKind.u8.wrap (x / 2 ^ (8 * (m : Int)).toNat))] 5)).drew (by rfl) _ _ _ (by rfl) 5 5 i0 (.int .u8 0) 1 1 Try.underlying36 hi hz0 hz1 hz2 rfl A1 l'.length cap1 (bv l') (by rfl) E5.out (some ⟨wr.heap.size, 0, none⟩) 1 1 [.int .u8 (IntKind.u8.wrap (x / 2 ^ (8 * (m : Int)).toNat))] (by rfl) rfl E6.out (by simp [Value.oneCell']) H7.out H8.out ?_; intro A' cap' w3 hown hup hfp; have c3 := E9.out w3 hup; have f3 := E10.out w3 hup)
      all_goals
        have e4 := hup.blk (e1.alloc _).drew hgn
        go_wp2
        have hbt : Value.int .u8 (IntKind.u8.wrap (x / 2 ^ (8 * (m : Int)).toNat)) = .int .u8 ((Mp.byteAt x m).toNat : Int) := by
          rw [Mp.byteAt_wrap, show (8 * (m : Int)).toNat = 8 * m by omega, Mp.pow8, IntKind.wrap_u8']
        rw [hbt, show bv l' ++ [Value.int .u8 ((Mp.byteAt x m).toNat : Int)] = bv (l' ++ [Mp.byteAt x m]) by simp [bv]] at hown
        have hlen := congrArg List.length HL2.out
        simp only [List.length_append, Mp.be_length] at hlen
        have hB2 := hw2.lt
        have hfp' : ∀ k, k ∈ fp A' cap' → B ≤ k := fun k hk => (hfp k hk).elim (e3 k) (fun h => by simp at h; omega)
        refine ⟨⟨m, by omega, rfl, l' ++ [Mp.byteAt x m], IsV.wrote h0 e4 hown hfp' (by simp), ?_, ?_, ?_, ?_⟩, by simp [intOf]⟩
        · rw [← HL2.out]; simp [Mp.be]
        · simp; omega
        · exact (((hbl2.alloc hB2 _).drew).trans (upd_below hup e3 (by simp; omega))).setCell h0 _
        · exact fun T t1 t2 => ((((hkp2 T t1 t2).alloc _).drew).trans (E5.out.keep_ne hup (Ne.symm t1))).setCell e4 (Ne.symm t2) 0 _

theorem IsV.bad {w : World} {B g : Nat} {s : Mp.Bytes × Bool} (h : IsV w B g s) : IsV (w.setCell ⟨g, 1, none⟩ (.bool true)) B g (s.1, true) := by
  obtain ⟨h0, A, cap, h1, h2, h3⟩ := h
  exact ⟨h0, A, cap, by simpa using h1.set_ 1 (.bool true), h2.upd (((Upd.refl [g] w)).setCell (.inl (by simp)) _) (fun k hk e => by simp at e; subst e; exact h2.fp_ne h1 (by decide) hk), h3⟩

set_option maxRecDepth 100000 in
set_option maxHeartbeats 400000 in
theorem refPutBad {w : World} {B g : Nat} {s : Mp.Bytes × Bool} (hw : IsV w B g s) (size : Int) (h1 : 1 ≤ size) (h7 : size ≤ 7) (x : Int) (hfit : Mp.fits size x = false) :
    Calls Try.prog 35 #[.pointer (some ⟨g, 0, none⟩), .int .i64 size, .int .i64 x] w fun e w' => e = .returned (.tuple #[]) ∧ IsV w' B g (s.1, true) ∧ Below B w w' := by
  have hok : Mp.okSize size = true := by simp [Mp.okSize]; omega
  have HS := Lib.hid (refSize size w)
  rw [hok] at HS
  obtain ⟨h0, A, cap, b1, _, _⟩ := id hw
  have f1 : w.frozen? ⟨g, 1, none⟩ = false := b1.frozen 1
  have c1 : w.cell? ⟨g, 1, none⟩ = some (.bool s.2) := b1.cell 1
  by_cases hx : x < 0
  · have d0 : decide (x < 0) = true := by simpa using hx
    clear hfit hok
    go_enter Try.func35, Try.ntmps35
    go_wp2_with (go_at_call 52; (with_reducible refine HS.out.mono ?_); rintro e w1 ⟨rfl, rfl⟩)
    refine bodyPost_ret (results_none rfl _ _ _) rfl ?_
    exact ⟨rfl, hw.bad, (Below.refl B w).setCell h0 _⟩
  · have hd := (Mp.fits_iff h1 (by omega)).1 hfit
    have hd2 : (x / 2 ^ (8 * size).toNat != 0) = true := by rw [bne_iff_ne]; omega
    have d0 : decide (x < 0) = false := by simpa using hx
    clear hfit hok hd
    go_enter Try.func35, Try.ntmps35
    go_wp2_with (go_at_call 52; (with_reducible refine HS.out.mono ?_); rintro e w1 ⟨rfl, rfl⟩)
    refine bodyPost_ret (results_none rfl _ _ _) rfl ?_
    exact ⟨rfl, hw.bad, (Below.refl B w).setCell h0 _⟩

/-- Writer.Num -/
theorem refPutAny {w : World} {B g : Nat} {s : Mp.Bytes × Bool} (hw : IsV w B g s) (size : Int) (h1 : 1 ≤ size) (h7 : size ≤ 7) (x : Int) (hb : s.1.length ≤ 70368744177664) :
    Calls Try.prog 35 #[.pointer (some ⟨g, 0, none⟩), .int .i64 size, .int .i64 x] w fun e w' => e = .returned (.tuple #[]) ∧ IsV w' B g (Mp.nums size [x] s) ∧ Below B w w' := by
  have hok : Mp.okSize size = true := by simp [Mp.okSize]; omega
  cases hf : Mp.fits size x with
  | true =>
    have e : Mp.nums size [x] s = (s.1 ++ Mp.be x size.toNat, s.2) := by simp [Mp.nums, hok, Mp.wr, hf]
    rw [e]
    exact (refPut hw size h1 h7 x hf hb).mono fun _ _ ⟨a, b, c, _⟩ => ⟨a, b, c⟩
  | false =>
    have e : Mp.nums size [x] s = (s.1, true) := by simp [Mp.nums, hok, Mp.wr, hf]
    rw [e]
    exact refPutBad hw size h1 h7 x hf

theorem IsQ.bad {w : World} {g : Nat} {s : Mp.Bytes × Bool} (h : IsQ w g s) : IsQ (w.setCell ⟨g, 1, none⟩ (.bool true)) g (s.1, true) ∧ Upd [g] w (w.setCell ⟨g, 1, none⟩ (.bool true)) ∧ Keep 5 w (w.setCell ⟨g, 1, none⟩ (.bool true)) := by
  obtain ⟨A, c, h1, h2, h3, h4⟩ := h
  have k := (Keep.refl 5 w).setCell h1 (by decide) 1 (.bool true)
  exact ⟨⟨A, c, by simpa using h1.set_ 1 (.bool true), h2, h3, h4.keep k⟩, (Upd.refl _ _).setCell (.inl (by simp)) _, k⟩

set_option maxRecDepth 100000 in
set_option maxHeartbeats 400000 in
theorem refNumBad {w : World} {g : Nat} {s : Mp.Bytes × Bool} (hr : IsQ w g s) (size : Nat) (h1 : 1 ≤ size) (h7 : size ≤ 7) (hb : s.2 = true ∨ s.1.length < size) :
    Calls Try.prog 31 #[.pointer (some ⟨g, 0, none⟩), .int .i64 (size : Int)] w fun e w' => e = .returned (.int .i64 0) ∧ IsQ w' g (s.1, true) ∧ Upd [g] w w' ∧ Keep 5 w w' := by
  obtain ⟨A, c, b1, b2, b3, b4⟩ := id hr
  have f1 : w.frozen? ⟨g, 1, none⟩ = false := b1.frozen 1
  have c0 := b1.cell 0
  have c1 := b1.cell 1
  simp at c0 c1
  have hok : Mp.okSize (size : Int) = true := by simp [Mp.okSize]; omega
  have HS := Lib.hid (refSize (size : Int) w)
  rw [hok] at HS
  obtain ⟨l, sp⟩ := s
  simp only at hb c0 c1
  cases sp
  · have hb : l.length < size := by simpa using hb
    have d : decide (l.length < size) = true := by simpa using hb
    have d2 : decide ((l.length : Int) < (size : Int)) = true := by simp; omega
    clear hok hb
    go_enter Try.func31, Try.ntmps31
    go_wp2_with (go_at_call 52; (with_reducible refine HS.out.mono ?_); rintro e w1 ⟨rfl, rfl⟩)
    go_ret
    exact ⟨rfl, hr.bad⟩
  · clear hok hb
    go_enter Try.func31, Try.ntmps31
    go_wp2_with fail
    go_ret
    exact ⟨rfl, hr.bad⟩

/-- Reader.Num -/
theorem refNum {w : World} {g : Nat} {s : Mp.Bytes × Bool} (hr : IsQ w g s) (size : Nat) (h1 : 1 ≤ size) (h7 : size ≤ 7) :
    Calls Try.prog 31 #[.pointer (some ⟨g, 0, none⟩), .int .i64 (size : Int)] w fun e w' => e = .returned (.int .i64 (Mp.rnum size s).1) ∧ IsQ w' g (Mp.rnum size s).2 ∧ Upd [g] w w' ∧ Keep 5 w w' := by
  by_cases hb : s.2 = true ∨ s.1.length < size
  · have hs : s.2 = true ∨ (s.1.length : Int) < (size : Int) := by rcases hb with h | h; exact .inl h; exact .inr (by omega)
    have e : Mp.rnum size s = (0, (s.1, true)) := by
      unfold Mp.rnum Mp.rraw
      by_cases h2 : s.2 = true
      · rw [if_pos h2]; exact Prod.ext rfl (Prod.ext rfl h2)
      · rw [if_neg h2, if_pos (hs.elim (fun h => absurd h h2) .inr)]; rfl
    rw [e]
    exact refNumBad hr size h1 h7 hb
  · obtain ⟨l, sp⟩ := s
    simp only [not_or, Bool.not_eq_true] at hb
    obtain ⟨h2, h3⟩ := hb
    subst h2
    rw [Mp.rnum_ok (by omega)]
    exact refNumOk hr size h1 h7 (by omega)

/-- Reader.Raw of what is left -/
def RawR (w : World) (g : Nat) (out : Mp.Bytes) (s : Mp.Bytes × Bool) (e : Ending) (w' : World) : Prop :=
  ∃ A c, e = .returned (.slice A out.length c) ∧ OwnS w' 5 1 A out.length c (bv out) ∧ (∀ k, k ∈ fp A c → w.heap.size ≤ k) ∧ IsQ w' g s ∧ Upd [g] w w'

set_option maxRecDepth 100000 in
set_option maxHeartbeats 400000 in
theorem refRawBad {w : World} {g : Nat} {s : Mp.Bytes × Bool} (hr : IsQ w g s) (n : Nat) (hb : s.2 = true ∨ s.1.length < n) :
    Calls Try.prog 32 #[.pointer (some ⟨g, 0, none⟩), .int .i64 (n : Int)] w (RawR w g [] (s.1, true)) := by
  obtain ⟨A, c, b1, b2, b3, b4⟩ := id hr
  have f1 : w.frozen? ⟨g, 1, none⟩ = false := b1.frozen 1
  have c0 := b1.cell 0
  have c1 := b1.cell 1
  simp at c0 c1
  obtain ⟨l, sp⟩ := s
  simp only at hb c0 c1
  cases sp
  · have hb : l.length < n := by simpa using hb
    have d : decide (l.length < n) = true := by simpa using hb
    have d0 : decide ((n : Int) < 0) = false := by simp
    clear hb
    go_enter Try.func32, Try.ntmps32
    go_wp2_with fail
    go_ret
    exact ⟨none, 0, rfl, OwnS.nil _ _ _ _, by simp [fp], hr.bad.1, hr.bad.2.1⟩
  · clear hb
    go_enter Try.func32, Try.ntmps32
    go_wp2_with fail
    go_ret
    exact ⟨none, 0, rfl, OwnS.nil _ _ _ _, by simp [fp], hr.bad.1, hr.bad.2.1⟩

theorem refRaw {w : World} {g : Nat} {s : Mp.Bytes × Bool} (hr : IsQ w g s) (n : Nat) (hl : s.1.length ≤ 70368744177664) :
    Calls Try.prog 32 #[.pointer (some ⟨g, 0, none⟩), .int .i64 (n : Int)] w (RawR w g (Mp.rraw n s).1 (Mp.rraw n s).2) := by
  by_cases hb : s.2 = true ∨ s.1.length < n
  · have e : Mp.rraw n s = ([], (s.1, true)) := by
      unfold Mp.rraw
      by_cases h2 : s.2 = true
      · rw [if_pos h2]; exact Prod.ext rfl (Prod.ext rfl h2)
      · rw [if_neg h2, if_pos (hb.elim (fun h => absurd h h2) (fun h => .inr (by omega)))]
    rw [e]
    exact refRawBad hr n hb
  · obtain ⟨l, sp⟩ := s
    simp only [not_or, Bool.not_eq_true] at hb
    obtain ⟨h2, h3⟩ := hb
    subst h2
    rw [Mp.rraw_ok (by omega)]
    have hn : (l.take n).length = n := by rw [List.length_take]; omega
    refine (refRawOk hr n (by omega) hl).mono ?_
    rintro e w' ⟨A, c, h1, h2, h3, h4, h5⟩
    exact ⟨A, c, by rw [hn]; exact h1, by rw [hn]; exact h2, h3, h4, h5⟩
end Go.Proofs.Ytemcpldipjbleaa
