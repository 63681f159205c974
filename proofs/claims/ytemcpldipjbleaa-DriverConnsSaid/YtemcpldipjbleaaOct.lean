/- octets: the writer and the reader, function by function. -/
import Derived.Test.YtemcpldipjbleaaLib
import Derived.Test.YtemcpldipjbleaaBytes
import Derived.Deep.RegionHeld3
import Derived.Deep.RegionLaw
import Derived.Deep.RegionWith
import Derived.StillTailTactics
import Derived.BigQuiet
import Derived.Deep.QuietTactic
namespace Go.Proofs.Ytemcpldipjbleaa
open Go.RowKit

theorem blk_add {b o n : Nat} : (⟨b, o, none⟩ : Addr).add n = ⟨b, o + n, none⟩ := Addr.add_lit b o n
theorem OwnS.fp_ne {w : World} {e : TypeId} {size : Nat} {A : Option Addr} {n cap : Nat} {xs : List Value} (h : OwnS w e size A n cap xs) {g : Nat} {t : TypeId} {cs : Array Value} (hg : Blk w g t cs) (hne : t ≠ e) : g ∉ fp A cap := by
  intro hk
  unfold fp at hk
  split at hk
  · cases hk
  · obtain ⟨b, o, cur, rfl, hb, _⟩ := h.row (by omega)
    simp at hk
    subst hk
    exact blk_not hg hne _ _ hb

/-- block g is a writer that holds the bytes s.1, spoilt or not; all that is its own lies from block B on -/
def IsW (w : World) (B g : Nat) (s : Mp.Bytes × Bool) : Prop :=
  B ≤ g ∧ ∃ A cap, Blk w g 133 #[.slice A s.1.length cap, .bool s.2] ∧ OwnS w 5 1 A s.1.length cap (bv s.1) ∧ ∀ k, k ∈ fp A cap → B ≤ k

theorem IsW.below {w w' : World} {B g : Nat} {s : Mp.Bytes × Bool} (h : IsW w B g s) (hb : Below w.heap.size w w') : IsW w' B g s := by
  obtain ⟨h0, A, cap, h1, h2, h3⟩ := h
  exact ⟨h0, A, cap, (Upd.of_below hb []).blk h1 (by simp), h2.below hb, h3⟩
theorem IsW.drew {w : World} {B g : Nat} {s : Mp.Bytes × Bool} (h : IsW w B g s) : IsW w.drew B g s := h.below ((Below.refl _ _).drew)
theorem IsW.alloc {w : World} {B g : Nat} {s : Mp.Bytes × Bool} (h : IsW w B g s) (o : Obj) : IsW (w.alloc o) B g s := h.below ((Below.refl _ _).alloc (Nat.le_refl _) _)
theorem IsW.lt {w : World} {B g : Nat} {s : Mp.Bytes × Bool} (h : IsW w B g s) : B ≤ w.heap.size := by
  obtain ⟨h0, A, cap, h1, h2, h3⟩ := h
  have := h1.lt
  omega
theorem IsW.new (w : World) : IsW (w.alloc (.cells #[.slice none 0 0, .bool false] 133)) w.heap.size w.heap.size ([], false) :=
  ⟨Nat.le_refl _, none, 0, Blk.new w _ _, OwnS.nil _ _ _ _, by simp [fp]⟩

theorem IsW.newAt (w : World) (g : Nat) (hg : g = w.heap.size) : IsW (w.alloc (.cells #[.slice none 0 0, .bool false] 133)) g g ([], false) := by subst hg; exact IsW.new w
theorem IsW.wrote {w : World} {B g n : Nat} {x : Value} {sp : Bool} {A : Option Addr} {cap : Nat} {l : List UInt8} (h0 : B ≤ g) (h1 : Blk w g 133 #[x, .bool sp]) (h2 : OwnS w 5 1 A n cap (bv l)) (h3 : ∀ k, k ∈ fp A cap → B ≤ k) (hn : n = l.length) :
    IsW (w.setCell ⟨g, 0, none⟩ (.slice A n cap)) B g (l, sp) := by
  subst hn
  exact ⟨h0, A, cap, by simpa using h1.set_ 0 (.slice A l.length cap), h2.upd (((Upd.refl [g] w)).setCell (.inl (by simp)) _) (fun k hk e => by simp at e; subst e; exact h2.fp_ne h1 (by decide) hk), h3⟩
theorem upd_below {B : Nat} {F : List Nat} {w w' : World} (h : Upd F w w') (hF : ∀ k, k ∈ F → B ≤ k) (hB : B ≤ w.heap.size) : Below B w w' :=
  ⟨h.os, h.tape, h.output, h.size, fun k hk => h.block k (by omega) (fun hf => by have := hF k hf; omega)⟩

set_option maxHeartbeats 400000 in
theorem wRaw {w : World} {B g : Nat} {s : Mp.Bytes × Bool} (hw : IsW w B g s) (A : Option Addr) (l : List UInt8) (c : Nat) (hs : Seg w 5 A (bv l)) (hb : s.1.length + l.length ≤ 70368744177664) :
    Calls Try.prog 73 #[.pointer (some ⟨g, 0, none⟩), .slice A l.length c] w fun e w' => e = .returned (.pointer (some ⟨g, 0, none⟩)) ∧ IsW w' B g (s.1 ++ l, s.2) ∧ Below B w w' := by
  obtain ⟨i0, hi, hz0, hz1, hz2⟩ := info_parts u8info
  obtain ⟨h0, A0, cap, h1, h2, h3⟩ := hw
  have c0 := h1.cell 0
  have f0 := h1.frozen 0
  simp at c0
  have hgn := h2.fp_ne h1 (by decide)
  go_enter Try.func73, Try.ntmps73
  go_wp2_with (at_builtin; refine wpList_append_s _ rfl _ _ _ rfl 5 5 i0 (.int .u8 0) 1 1 Try.underlying36 hi hz0 hz1 hz2 rfl A0 s.1.length cap (bv s.1) rfl h2 A l.length c (bv l) rfl (by simp [bv]) hs (bv_one l) (le_maxLen (by omega)) (by omega) ?_; intro A' cap' w1 hown hup hfp; have c1 := (hup.blk h1 hgn).cell 0; have f1 := (hup.blk h1 hgn).frozen 0; simp at c1)
  have hB := h1.lt
  have hfp' : ∀ k, k ∈ fp A' cap' → B ≤ k := fun k hk => (hfp k hk).elim (h3 k) (fun h => by omega)
  have hl : s.1.length + l.length = (s.1 ++ l).length := by simp
  rw [← bv_append] at hown
  go_ret
  exact ⟨rfl, IsW.wrote h0 (hup.blk h1 hgn) hown hfp' hl, (upd_below hup h3 (by omega)).setCell h0 _⟩

/-- what a writer hands back -/
def Wrote (w : World) (s : Mp.Bytes × Bool) (e : Ending) (w' : World) : Prop :=
  if s.2 then e = .returned (.tuple #[.slice none 0 0, .int .i64 1]) ∧ w = w' else
    ∃ A' c', e = .returned (.tuple #[.slice A' s.1.length c', .int .i64 0]) ∧ OwnS w' 5 1 A' s.1.length c' (bv s.1) ∧ Below w.heap.size w w' ∧ ∀ k, k ∈ fp A' c' → w.heap.size ≤ k

theorem wBytes {w : World} {B g : Nat} {s : Mp.Bytes × Bool} (hw : IsW w B g s) (hb : s.1.length ≤ 70368744177664) :
    Calls Try.prog 68 #[.pointer (some ⟨g, 0, none⟩)] w (Wrote w s) := by
  obtain ⟨h0, A0, cap, h1, h2, h3⟩ := hw
  obtain ⟨l, sp⟩ := s
  have c0 := h1.cell 0
  have c1 := h1.cell 1
  simp at c0 c1
  cases sp
  · go_enter Try.func68, Try.ntmps68
    go_wp2_with (go_at_call 69; refine (cloneB A0 l.length cap (bv l) _ (bv_length l) h2.seg (bv_one l) (by simp at hb; omega)).mono ?_; rintro e w1 ⟨A', c', rfl, ho, hbl, hf⟩)
    go_ret2
    exact ⟨A', c', rfl, ho, hbl, hf⟩
  · go_enter Try.func68, Try.ntmps68
    go_wp2
    go_ret2
    exact ⟨rfl, rfl⟩

/-- rows of other elements than bytes, and that are no writers, stay -/
def KeepX (w w' : World) : Prop := ∀ T : TypeId, T ≠ 5 → T ≠ 133 → Keep T w w'
theorem KeepX.refl (w : World) : KeepX w w := fun _ _ _ => Keep.refl _ _
theorem KeepX.trans {a w w' : World} (h : KeepX a w) (k : KeepX w w') : KeepX a w' := fun T h1 h2 => (h T h1 h2).trans (k T h1 h2)
theorem KeepX.blk {w w' : World} (h : KeepX w w') {g : Nat} {T : TypeId} {cs : Array Value} (hg : Blk w g T cs) (h1 : T ≠ 5) (h2 : T ≠ 133) : Blk w' g T cs := h T h1 h2 _ _ _ hg
theorem KeepX.below {w w' : World} (h : Below w.heap.size w w') : KeepX w w' := fun _ _ _ => Keep.of_below h

/-- after k numbers -/
def NumsK (w : World) (B g : Nat) (s : Mp.Bytes × Bool) (size : Int) (ns : List Int) (k : Nat) (wr : World) : Prop :=
  ∃ s', IsW wr B g s' ∧ Mp.wr size (ns.drop k) s' = Mp.wr size ns s ∧ s'.1.length ≤ s.1.length + k * 7 ∧ Below B w wr ∧ KeepX w wr
/-- j bytes of x are still to come -/
def NumsJ (w : World) (B g : Nat) (l : Mp.Bytes) (sp : Bool) (x : Int) (size j : Nat) (wr : World) : Prop :=
  ∃ l', IsW wr B g (l', sp) ∧ l' ++ Mp.be x j = l ++ Mp.be x size ∧ l'.length ≤ l.length + 7 ∧ Below B w wr ∧ KeepX w wr

set_option maxRecDepth 100000 in
set_option maxHeartbeats 1000000 in
theorem wNums_ok {w : World} {B g : Nat} {s : Mp.Bytes × Bool} (hw : IsW w B g s) (size : Int) (h1 : 1 ≤ size) (h7 : size ≤ 7) (A : Option Addr) (ns : List Int) (c : Nat) (hs : Seg w 3 A (iv ns)) (hb : s.1.length + ns.length * 7 ≤ 70368744177664) :
    Calls Try.prog 72 #[.pointer (some ⟨g, 0, none⟩), .int .i64 size, .slice A ns.length c] w fun e w' => e = .returned (.pointer (some ⟨g, 0, none⟩)) ∧ IsW w' B g (Mp.nums size ns s) ∧ Below B w w' ∧ KeepX w w' := by
  have d1 : decide (size < 1) = false := by simp; omega
  have d7 : decide (7 < size) = false := by simp; omega
  have hnums : Mp.nums size ns s = Mp.wr size ns s := by unfold Mp.nums; rw [if_pos]; simp [Mp.okSize]; omega
  have HN := Lib.hid hnums
  clear hnums
  obtain ⟨i0, hi, hz0, hz1, hz2⟩ := info_parts u8info
  go_enter Try.func72, Try.ntmps72
  go_wp2
  go_loopw [24] (fun i wr => ∃ k : Nat, k ≤ ns.length ∧ i = .int .i64 k ∧ NumsK w B g s size ns k wr) (fun i _ => ns.length - (intOf i).toNat)
  case atStart => exact ⟨0, Nat.zero_le _, rfl, s, hw, rfl, by omega, Below.refl _ _, KeepX.refl _⟩
  case round =>
    obtain ⟨k, hk, rfl, hrel⟩ := hrel
    obtain ⟨s', hw', he, hl, hbl, hkp⟩ := hrel
    by_cases hlt : k < ns.length
    · have hx := (hs.keep (hkp _ (by decide) (by decide))).cell (j := k) (by rw [iv_length]; exact hlt)
      obtain ⟨b, o, rfl, hx⟩ := hx
      obtain ⟨x, hxe⟩ : ∃ x, x = ns[k] := ⟨_, rfl⟩
      have hx' : wr.cell? ⟨b, o + k, none⟩ = some (.int .i64 x) := by rw [hx]; simp [iv, hxe]
      rw [List.drop_eq_getElem_cons hlt, ← hxe] at he
      have HE := Lib.hid he
      clear hx hxe he
      obtain ⟨h0, A0, cap, b1, b2, b3⟩ := id hw'
      have c0 := b1.cell 0
      have c1 := b1.cell 1
      have f1 := b1.frozen 1
      simp at c0 c1
      by_cases hfit : Mp.fits size x = true
      · have hx0 : 0 ≤ x := by simp [Mp.fits] at hfit; omega
        have hd : decide (0 < x / 2 ^ (8 * size).toNat) = false := by
          rw [decide_eq_false_iff_not]; intro h; rw [(Mp.fits_iff h1 hx0).2 h] at hfit; cases hfit
        have HE2 : Hid (Mp.wr size (ns.drop (k + 1)) (s'.1 ++ Mp.be x size.toNat, s'.2) = Mp.wr size ns s) := by
          have := HE.out; rw [Mp.wr, if_pos hfit] at this; exact Lib.hid this
        clear hfit HE
        go_wp2
        go_loopw [9] (fun i w2 => ∃ j : Nat, j ≤ size.toNat ∧ i = .int .i64 ((j : Int) - 1) ∧ NumsJ w B g s'.1 s'.2 x size.toNat j w2) (fun i _ => ((intOf i) + 1).toNat)
        case atStart => exact ⟨size.toNat, Nat.le_refl _, by rw [Int.toNat_of_nonneg (by omega)], s'.1, hw', rfl, by omega, hbl, hkp⟩
        case round =>
          obtain ⟨j, hj, rfl, l', hw2, hl2, hll, hbl2, hkp2⟩ := hrel
          rcases Nat.eq_zero_or_pos j with rfl | hj0
          · have HL2 := Lib.hid hl2
            clear hl2
            go_wp2
            refine ⟨⟨k + 1, by omega, by go_num, (l', s'.2), hw2, ?_, ?_, hbl2, hkp2⟩, by simp [intOf]; omega⟩
            · rw [← HE2.out, ← HL2.out]; simp [Mp.be]
            · simp at hll hl ⊢; omega
          · obtain ⟨m, rfl⟩ : ∃ m, j = m + 1 := ⟨j - 1, by omega⟩
            have HL2 := Lib.hid hl2
            clear hl2
            rw [show (((m + 1 : Nat) : Int) - 1) = (m : Int) from by omega]
            obtain ⟨_, A1, cap1, e1, e2, e3⟩ := id hw2
            have k0 := e1.cell 0
            have kf := e1.frozen 0
            simp at k0
            have hgn := e2.fp_ne e1 (by decide)
            have hgl := e1.lt
            have E5 := Lib.hid (show OwnS (wr.alloc (.cells #[.int .u8 (IntKind.u8.wrap (x / 2 ^ (8 * (m : Int)).toNat))] 5)).drew 5 1 A1 l'.length cap1 (bv l') from e2.below ((Below.refl _ _).alloc (Nat.le_refl _) _).drew)
            have E6 := Lib.hid (Seg.new_drew wr 5 [.int .u8 (IntKind.u8.wrap (x / 2 ^ (8 * (m : Int)).toNat))])
            have H7 := Lib.hid (show l'.length + 1 ≤ maxLen from le_maxLen (by omega))
            have H8 := Lib.hid (show (l'.length + 1) * 1 ≤ 140737488355328 by omega)
            have E9 := Lib.hid (show ∀ w3, Upd (fp A1 cap1) (wr.alloc (.cells #[.int .u8 (IntKind.u8.wrap (x / 2 ^ (8 * (m : Int)).toNat))] 5)).drew w3 → w3.cell? ⟨g, 0, none⟩ = some (.slice A1 l'.length cap1) from fun w3 hu => by simpa using (hu.blk (e1.alloc _).drew hgn).cell 0)
            have E10 := Lib.hid (show ∀ w3, Upd (fp A1 cap1) (wr.alloc (.cells #[.int .u8 (IntKind.u8.wrap (x / 2 ^ (8 * (m : Int)).toNat))] 5)).drew w3 → w3.frozen? ⟨g, 0, none⟩ = false from fun w3 hu => (hu.blk (e1.alloc _).drew hgn).frozen 0)
            have hw8 : IntKind.i64.wrap (8 * (m : Int)) = 8 * (m : Int) := IntWalk.i64_in _ (by omega)
            have q1 : (0 : Int) ≤ 8 * (m : Int) := by omega
            have q2 : 8 * (m : Int) ≤ 64 := by omega
            go_wp2
            go_region_law (refine step_append_s (wr.alloc (.cells #[.int .u8 (IntKind.u8.wrap (x / 2 ^ (8 * (m : Int)).toNat))] 5)).drew (by rfl) _ _ _ (by rfl) 5 5 i0 (.int .u8 0) 1 1 Try.underlying36 hi hz0 hz1 hz2 rfl A1 l'.length cap1 (bv l') (by rfl) E5.out (some ⟨wr.heap.size, 0, none⟩) 1 1 [.int .u8 (IntKind.u8.wrap (x / 2 ^ (8 * (m : Int)).toNat))] (by rfl) rfl E6.out (by simp [Value.oneCell']) H7.out H8.out ?_; intro A' cap' w3 hown hup hfp; have c3 := E9.out w3 hup; have f3 := E10.out w3 hup)
            all_goals
              have e4 := hup.blk (e1.alloc _).drew hgn
              go_wp2
              have hbt : Value.int .u8 (IntKind.u8.wrap (x / 2 ^ (8 * (m : Int)).toNat)) = .int .u8 ((Mp.byteAt x m).toNat : Int) := by
                rw [Mp.byteAt_wrap, show (8 * (m : Int)).toNat = 8 * m by omega, Mp.pow8, IntKind.wrap_u8']
              rw [hbt, show bv l' ++ [Value.int .u8 ((Mp.byteAt x m).toNat : Int)] = bv (l' ++ [Mp.byteAt x m]) by simp [bv]] at hown
              have hlen := congrArg List.length HL2.out
              simp only [List.length_append, Mp.be_length] at hlen
              have hB2 := hw2.lt
              have hfp' : ∀ k, k ∈ fp A' cap' → B ≤ k := fun k hk => (hfp k hk).elim (e3 k) (fun h => by simp at h; omega)
              refine ⟨⟨m, by omega, rfl, l' ++ [Mp.byteAt x m], IsW.wrote h0 e4 hown hfp' (by simp), ?_, ?_, ?_, ?_⟩, by simp [intOf]⟩
              · rw [← HL2.out]; simp [Mp.be]
              · simp; omega
              · exact (((hbl2.alloc hB2 _).drew).trans (upd_below hup e3 (by simp; omega))).setCell h0 _
              · exact fun T t1 t2 => ((((hkp2 T t1 t2).alloc _).drew).trans (E5.out.keep_ne hup (Ne.symm t1))).setCell e4 (Ne.symm t2) 0 _
      · have HF := Lib.hid hfit
        have HE2 : Hid ((s'.1, true) = Mp.wr size ns s) := by
          have := HE.out; rw [Mp.wr, if_neg hfit] at this; exact Lib.hid this
        have hlast : ∀ w1, w1 = wr.setCell ⟨g, 1, none⟩ (.bool true) → IsW w1 B g (Mp.nums size ns s) ∧ Below B w w1 ∧ KeepX w w1 := by
          rintro w1 rfl
          rw [HN.out, ← HE2.out]
          exact ⟨⟨h0, A0, cap, by simpa using b1.set_ 1 (.bool true), b2.upd (((Upd.refl [g] wr)).setCell (.inl (by simp)) _) (fun k hk e => by simp at e; subst e; exact b2.fp_ne b1 (by decide) hk), b3⟩, hbl.setCell h0 _, fun T t1 t2 => (hkp T t1 t2).setCell b1 (Ne.symm t2) 1 _⟩
        by_cases hx0 : 0 ≤ x
        · have hd : decide (0 < x / 2 ^ (8 * size).toNat) = true := by
            rw [decide_eq_true_eq]; exact (Mp.fits_iff h1 hx0).1 (by simpa using HF.out)
          clear hfit
          go_wp2
          go_ret
          exact ⟨rfl, hlast _ rfl⟩
        · clear hfit
          go_wp2
          go_ret
          exact ⟨rfl, hlast _ rfl⟩
    · have HL : Hid (s' = Mp.wr size ns s) := by rw [List.drop_of_length_le (by omega)] at he; exact Lib.hid he
      clear he
      go_wp2
      go_ret
      exact ⟨rfl, by rw [HN.out, ← HL.out]; exact hw', hbl, hkp⟩

/-- the same, the length a letter -/
theorem wNumsX {w : World} {B g : Nat} {s : Mp.Bytes × Bool} (hw : IsW w B g s) (size : Int) (h1 : 1 ≤ size) (h7 : size ≤ 7) (A : Option Addr) (ns : List Int) (n c : Nat) (hn : n = ns.length) (hs : Seg w 3 A (iv ns)) (hb : s.1.length + ns.length * 7 ≤ 70368744177664) :
    Calls Try.prog 72 #[.pointer (some ⟨g, 0, none⟩), .int .i64 size, .slice A n c] w fun e w' => e = .returned (.pointer (some ⟨g, 0, none⟩)) ∧ IsW w' B g (Mp.nums size ns s) ∧ Below B w w' ∧ KeepX w w' := by
  subst hn; exact wNums_ok hw size h1 h7 A ns c hs hb
theorem wNums {w : World} {B g : Nat} {s : Mp.Bytes × Bool} (hw : IsW w B g s) (size : Int) (h1 : 1 ≤ size) (h7 : size ≤ 7) (A : Option Addr) (ns : List Int) (n c : Nat) (hn : n = ns.length) (hs : Seg w 3 A (iv ns)) (hb : s.1.length + ns.length * 7 ≤ 70368744177664) :
    Calls Try.prog 72 #[.pointer (some ⟨g, 0, none⟩), .int .i64 size, .slice A n c] w fun e w' => e = .returned (.pointer (some ⟨g, 0, none⟩)) ∧ IsW w' B g (Mp.nums size ns s) ∧ Below B w w' :=
  (wNumsX hw size h1 h7 A ns n c hn hs hb).mono fun _ _ h => ⟨h.1, h.2.1, h.2.2.1⟩
end Go.Proofs.Ytemcpldipjbleaa
