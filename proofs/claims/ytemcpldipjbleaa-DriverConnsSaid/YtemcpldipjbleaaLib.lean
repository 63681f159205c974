/- Contracts of the library's small functions: slices.Clone, bytes.Equal. -/
import Derived.Test.YtemcpldipjbleaaMap
import Derived.Test.YtemcpldipjbleaaProg
namespace Go.Proofs.Ytemcpldipjbleaa
open Go.RowKit

/-- a new slice of its own, with just these cells; nothing that was there has turned -/
def Fresh (w : World) (T : TypeId) (size n : Nat) (xs : List Value) (e : Ending) (w' : World) : Prop :=
  ∃ A' c', e = .returned (.slice A' n c') ∧ OwnS w' T size A' n c' xs ∧ Below w.heap.size w w' ∧ ∀ k, k ∈ fp A' c' → w.heap.size ≤ k

theorem le_maxLen {n : Nat} (h : n ≤ 140737488355328) : n ≤ maxLen := by unfold maxLen; omega

theorem u8info : (Try.prog.info? 5).map (fun i => (i.zero, i.size, i.bytes)) = some (some (.int .u8 0), 1, 1) := by kernel_rfl
theorem i64info : (Try.prog.info? 3).map (fun i => (i.zero, i.size, i.bytes)) = some (some (.int .i64 0), 1, 8) := by kernel_rfl

theorem cloneB (A : Option Addr) (n c : Nat) (xs : List Value) (w : World) (hl : xs.length = n) (hs : Seg w 5 A xs) (h1 : ∀ u ∈ xs, u.oneCell' = true) (hn : n ≤ 140737488355328) :
    Calls Try.prog 69 #[.slice A n c] w (Fresh w 5 1 n xs) := by
  obtain ⟨i0, hi, hz0, hz1, hz2⟩ := info_parts u8info
  cases A with
  | none =>
    have hx : xs = [] := by
      rcases Nat.eq_zero_or_pos xs.length with h | h
      · exact List.eq_nil_of_length_eq_zero h
      · obtain ⟨b, o, cs, fz, e, _⟩ := hs h; cases e
    subst hx
    simp at hl
    subst hl
    have he := fun W => Lib.run_eql_slice_nil (P := Try.prog) W 36 5 none 0 c 0 0 Try.underlying36
    go_enter Try.func69, Try.ntmps69
    go_wp2
    go_ret
    exact ⟨none, 0, rfl, OwnS.nil _ _ _ _, Below.refl _ _, by simp [fp]⟩
  | some a =>
    have he := fun W => Lib.run_eql_slice_nil (P := Try.prog) W 36 5 (some a) n c 0 0 Try.underlying36
    go_enter Try.func69, Try.ntmps69
    go_wp2_with (at_builtin; refine wpList_append_s _ rfl _ _ _ rfl 5 5 i0 (.int .u8 0) 1 1 Try.underlying36 hi hz0 hz1 hz2 rfl (some ⟨w.heap.size, 0, none⟩) 0 0 [] rfl (OwnS.nil _ _ _ _) (some a) n c xs rfl (by omega) (hs.below ((Below.refl _ w).alloc (Nat.le_refl _) _)) h1 (le_maxLen (by omega)) (by omega) ?_; intro A' cap' w1 hown hup hfp)
    go_ret
    simp only [Nat.zero_add, List.nil_append] at hown
    refine ⟨A', cap', by simp, hown, ((Upd.of_below ((Below.refl _ w).alloc (Nat.le_refl _) _) []).trans (G := []) (by simpa [fp] using hup) (by simp)).to_below, fun k hk => ?_⟩
    have := hfp k hk
    simp [fp] at this
    omega
theorem cloneI (A : Option Addr) (n c : Nat) (xs : List Value) (w : World) (hl : xs.length = n) (hs : Seg w 3 A xs) (h1 : ∀ u ∈ xs, u.oneCell' = true) (hn : n * 8 ≤ 140737488355328) :
    Calls Try.prog 42 #[.slice A n c] w (Fresh w 3 1 n xs) := by
  obtain ⟨i0, hi, hz0, hz1, hz2⟩ := info_parts i64info
  cases A with
  | none =>
    have hx : xs = [] := by
      rcases Nat.eq_zero_or_pos xs.length with h | h
      · exact List.eq_nil_of_length_eq_zero h
      · obtain ⟨b, o, cs, fz, e, _⟩ := hs h; cases e
    subst hx
    simp at hl
    subst hl
    have he := fun W => Lib.run_eql_slice_nil (P := Try.prog) W 22 3 none 0 c 0 0 Try.underlying22
    go_enter Try.func42, Try.ntmps42
    go_wp2
    go_ret
    exact ⟨none, 0, rfl, OwnS.nil _ _ _ _, Below.refl _ _, by simp [fp]⟩
  | some a =>
    have he := fun W => Lib.run_eql_slice_nil (P := Try.prog) W 22 3 (some a) n c 0 0 Try.underlying22
    go_enter Try.func42, Try.ntmps42
    go_wp2_with (at_builtin; refine wpList_append_s _ rfl _ _ _ rfl 3 3 i0 (.int .i64 0) 1 8 Try.underlying22 hi hz0 hz1 hz2 rfl (some ⟨w.heap.size, 0, none⟩) 0 0 [] rfl (OwnS.nil _ _ _ _) (some a) n c xs rfl (by omega) (hs.below ((Below.refl _ w).alloc (Nat.le_refl _) _)) h1 (le_maxLen (by omega)) (by omega) ?_; intro A' cap' w1 hown hup hfp)
    go_ret
    simp only [Nat.zero_add, List.nil_append] at hown
    refine ⟨A', cap', by simp, hown, ((Upd.of_below ((Below.refl _ w).alloc (Nat.le_refl _) _) []).trans (G := []) (by simpa [fp] using hup) (by simp)).to_below, fun k hk => ?_⟩
    have := hfp k hk
    simp [fp] at this
    omega

/-- bytes, as cells -/
def bv (l : List UInt8) : List Value := l.map fun b => .int .u8 b.toNat
/-- ints, as cells -/
def iv (l : List Int) : List Value := l.map (.int .i64)
theorem bv_length (l : List UInt8) : (bv l).length = l.length := by simp [bv]
theorem iv_length (l : List Int) : (iv l).length = l.length := by simp [iv]
theorem bv_append (l m : List UInt8) : bv (l ++ m) = bv l ++ bv m := by simp [bv]
theorem iv_append (l m : List Int) : iv (l ++ m) = iv l ++ iv m := by simp [iv]
theorem bv_take (l : List UInt8) (k : Nat) : bv (l.take k) = (bv l).take k := by simp [bv]
theorem bv_drop (l : List UInt8) (k : Nat) : bv (l.drop k) = (bv l).drop k := by simp [bv]
theorem iv_take (l : List Int) (k : Nat) : iv (l.take k) = (iv l).take k := by simp [iv]
theorem iv_drop (l : List Int) (k : Nat) : iv (l.drop k) = (iv l).drop k := by simp [iv]
theorem bv_one (l : List UInt8) : ∀ u ∈ bv l, u.oneCell' = true := by intro u hu; obtain ⟨b, _, rfl⟩ := List.mem_map.1 hu; rfl
theorem iv_one (l : List Int) : ∀ u ∈ iv l, u.oneCell' = true := by intro u hu; obtain ⟨b, _, rfl⟩ := List.mem_map.1 hu; rfl

theorem strOf_bytes (l : List UInt8) : strOfNums (l.map fun b => (b.toNat : Int)) = ⟨l.toArray⟩ := by
  simp [strOfNums, Function.comp_def]

theorem run_str (l : List UInt8) (A : Option Addr) (c : Nat) (w : World) (hs : Seg w 5 A (bv l)) :
    (convert 36 9 (.slice A l.length c)).run Try.prog w = .ok (.string ⟨l.toArray⟩) w := by
  cases A with
  | none =>
    have hx : l = [] := by
      rcases Nat.eq_zero_or_pos l.length with h | h
      · exact List.eq_nil_of_length_eq_zero h
      · obtain ⟨b, o, cs, fz, e, _⟩ := hs (by rw [bv_length]; exact h); cases e
    subst hx
    exact run_convert_bytes_nil w _ _ Try.underlying36 Try.underlying5 _ _ _ Try.underlying9
  | some a =>
    have hc : ∃ b o, (l = [] ∨ a = ⟨b, o, none⟩) ∧ ∀ i, i < (l.map fun b => (b.toNat : Int)).length → w.cell? ⟨b, o + i, none⟩ = some (.int .u8 ((l.map fun b => (b.toNat : Int)).getD i 0)) := by
      rcases Nat.eq_zero_or_pos l.length with h | h
      · exact ⟨0, 0, .inl (List.eq_nil_of_length_eq_zero h), fun i hi => by simp at hi; omega⟩
      · obtain ⟨b, o, e, _, hx⟩ := hs.cells (by rw [bv_length]; exact h)
        injection e with e
        refine ⟨b, o, .inr e, fun i hi => ?_⟩
        have hi' : i < l.length := by simpa using hi
        refine hx i _ ?_
        simp [bv, hi']
    obtain ⟨b, o, hab, hc⟩ := hc
    rcases hab with rfl | rfl
    · rw [run_convert_bytes_string w _ _ _ _ _ _ Try.underlying36 Try.underlying5 Try.underlying9]
      have hl : (loadCells a 0).run Try.prog w = .ok (([] : List Int).map (Value.int .u8)).toArray w := by simp [loadCells, loadCellsFrom]
      exact run_bytesToString w a 0 c [] hl
    · have h := run_convert_bytes_arg w 36 5 Try.underlying36 Try.underlying5 b o l.length c (l.map fun b => (b.toNat : Int)) (by simp) (fun i hi => hc i (by simpa using hi)) 9 Try.underlying9
      rw [strOf_bytes] at h
      exact h

/-- bytes.Equal -/
theorem bytesEq (l m : List UInt8) (A B : Option Addr) (c d : Nat) (w : World) (hl : Seg w 5 A (bv l)) (hm : Seg w 5 B (bv m)) :
    Calls Try.prog 59 #[.slice A l.length c, .slice B m.length d] w fun e w' => e = .returned (.bool (l == m)) ∧ w = w' := by
  have h1 := run_str l A c w hl
  have h2 := run_str m B d w hm
  go_enter Try.func59, Try.ntmps59
  go_wp2
  go_ret
  exact ⟨by simp, rfl⟩

theorem cut_seg {w : World} {T : TypeId} {A : Option Addr} {xs : List Value} {c k sz n : Nat} (h : Seg w T A xs) (hx : xs.length = n * sz) (hn : n ≤ c) :
    Seg w T (if c = k then A else A.map (·.add (k * sz))) (xs.drop (k * sz)) := by
  by_cases e : c = k
  · intro h0
    rw [List.length_drop, hx] at h0
    have : n * sz ≤ k * sz := Nat.mul_le_mul_right _ (by omega)
    omega
  · rw [if_neg e]; exact h.drop _
theorem run_cutFrom {P : Program} {T e : TypeId} {sz : Nat} (ht : P.underlying T = some (.slice e)) (hs : ∀ W, (sizeOf e).run P W = .ok sz W) (A : Option Addr) (n c k : Nat) (hk : k ≤ n) (W : World) :
    (Instr.slice T (.slice A n c) (some (.int .i64 (k : Int))) none none).run P W = .ok (.slice (if c = k then A else A.map (·.add (k * sz))) (n - k) (c - k)) W := by
  have h1 : ¬ n < k := by omega
  simp [Instr.slice, run_underlying ht, Instr.sliceBounds, Instr.sliceBound, asIntOf, h1, hs]
/-- s[k:] of a slice of cells: its value under a name, and what it reads as -/
theorem cutFrom {P : Program} {T e : TypeId} (ht : P.underlying T = some (.slice e)) (hs : ∀ W, (sizeOf e).run P W = .ok 1 W) {w : World} {A : Option Addr} {xs : List Value} {n c k : Nat} (h : Seg w e A xs) (hx : xs.length = n) (hk : k ≤ n) (hn : n ≤ c) :
    ∃ A2, (∀ W, (Instr.slice T (.slice A n c) (some (.int .i64 (k : Int))) none none).run P W = .ok (.slice A2 (n - k) (c - k)) W) ∧ Seg w e A2 (xs.drop k) ∧ ∀ a, A2 = some a → ∃ a0, A = some a0 ∧ a0.block = a.block := by
  refine ⟨if c = k then A else A.map (·.add (k * 1)), fun W => run_cutFrom ht hs A n c k hk W, by simpa using cut_seg (k := k) (sz := 1) (n := n) h (by simpa using hx) hn, fun a ha => ?_⟩
  split at ha
  · exact ⟨a, ha, rfl⟩
  · cases A with
    | none => cases ha
    | some a0 => injection ha with ha; subst ha; exact ⟨a0, rfl, by unfold Addr.add; split <;> rfl⟩
end Go.Proofs.Ytemcpldipjbleaa
