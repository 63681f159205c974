/- timer.New, Wait, Start; sender.New, Over, Room; taker.New, Next. -/
import Derived.Test.YtemcpldipjbleaaMapW
import Derived.Test.YtemcpldipjbleaaModel
import Derived.Test.YtemcpldipjbleaaOct
namespace Go.Proofs.Ytemcpldipjbleaa
open Go.RowKit
attribute [local go_sem] run_makeMap0

/-- a timer's entries, as a map's -/
def waits (l : List Mp.Wait) : List (Int × Value) := l.map fun x => (x.id, .agg #[.int .i64 x.due, .int .i64 x.n])
theorem waits_fst (l : List Mp.Wait) : (waits l).map Prod.fst = l.map (·.id) := by simp [waits, Function.comp_def]
/-- a timer's numbers may be -/
structure MayT (T : Mp.Timer) : Prop where
  b1 : 1 ≤ T.base
  b2 : T.base ≤ 1000
  m1 : T.base ≤ T.most
  m2 : T.most ≤ 1000
  t0 : 0 ≤ T.tries
  t1 : T.tries ≤ 20
/-- block g is a timer, and block m its map -/
structure IsT (w : World) (g m : Nat) (T : Mp.Timer) : Prop where
  blk : Blk w g 125 #[.int .i64 T.base, .int .i64 T.most, .int .i64 T.tries, .map (some m)]
  map : MapI w m (waits T.l)

theorem IsT.upd {w w' : World} {g m : Nat} {T : Mp.Timer} {F : List Nat} (h : IsT w g m T) (hu : Upd F w w') (h1 : g ∉ F) (h2 : m ∉ F) : IsT w' g m T :=
  ⟨hu.blk h.blk h1, h.map.upd hu h2⟩

theorem IsT.drew {w : World} {g m : Nat} {T : Mp.Timer} (h : IsT w g m T) : IsT w.drew g m T := ⟨h.blk.drew, h.map.drew⟩

theorem timerNew (w : World) (base most tries : Int) (h : MayT ⟨base, most, tries, []⟩) :
    Calls Try.prog 46 #[.int .i64 base, .int .i64 most, .int .i64 tries] w fun e w' => ∃ g m, e = .returned (.tuple #[.pointer (some ⟨g, 0, none⟩), .int .i64 0]) ∧ IsT w' g m ⟨base, most, tries, []⟩ ∧
      Below w.heap.size w w' ∧ w.heap.size ≤ g ∧ w.heap.size ≤ m := by
  obtain ⟨b1, b2, m1, m2, t0, t1⟩ := h
  simp only at b1 b2 m1 m2 t0 t1
  have d1 : decide (base < 1) = false := by simp; omega
  have d2 : decide (1000 < base) = false := by simp; omega
  have d3 : decide (most < base) = false := by simp; omega
  have d4 : decide (1000 < most) = false := by simp; omega
  have d5 : decide (tries < 0) = false := by simp; omega
  have d6 : decide (20 < tries) = false := by simp; omega
  go_enter Try.func46, Try.ntmps46
  go_wp2
  go_ret2
  refine ⟨_, _, rfl, ⟨Blk.newAt _ _ _ _ (by simp), (MapI.new w).alloc _⟩, ((Below.refl _ w).alloc (Nat.le_refl _) _).alloc (by simp) _, by simp, Nat.le_refl _⟩

theorem grow_lt {most : Int} {k : Nat} {o : Int} (h : o < most) : Mp.grow most (k + 1) o = Mp.grow most k (2 * o) := by rw [Mp.grow, if_pos h]
theorem grow_ge {most : Int} {o : Int} (h : ¬ o < most) : ∀ k, Mp.grow most k o = o
  | 0 => rfl
  | k + 1 => by rw [Mp.grow, if_neg h]
theorem grow_bounds (most : Int) : ∀ (k : Nat) (o : Int), 1 ≤ o → o ≤ 1000 → most ≤ 1000 → 1 ≤ Mp.grow most k o ∧ Mp.grow most k o ≤ 2000
  | 0, o, h1, h2, _ => by simp [Mp.grow]; omega
  | k + 1, o, h1, h2, h3 => by
    unfold Mp.grow
    split
    · rename_i hlt
      by_cases hb : 2 * o ≤ 1000
      · exact grow_bounds most k (2 * o) (by omega) hb h3
      · have : Mp.grow most k (2 * o) = 2 * o := by
          cases k with
          | zero => rfl
          | succ k => unfold Mp.grow; rw [if_neg (by omega)]
        rw [this]; omega
    · omega
theorem wait_bounds {T : Mp.Timer} (h : MayT T) (n : Int) : 1 ≤ T.wait n ∧ T.wait n ≤ 1000 := by
  have := grow_bounds T.most n.toNat T.base h.b1 h.b2 h.m2
  have h1 := h.m1
  have h2 := h.m2
  have h3 := h.b1
  unfold Mp.Timer.wait
  omega

set_option maxRecDepth 100000 in
set_option maxHeartbeats 400000 in
theorem timerWait {w : World} {g m : Nat} {T : Mp.Timer} (h : IsT w g m T) (hm : MayT T) (n : Int) (h0 : 0 ≤ n) (hn : n ≤ 1000) :
    Calls Try.prog 84 #[.pointer (some ⟨g, 0, none⟩), .int .i64 n] w fun e w' => e = .returned (.int .i64 (T.wait n)) ∧ w = w' := by
  have hb := h.blk
  obtain ⟨c0, c1⟩ : w.cell? ⟨g, 0, none⟩ = some (.int .i64 T.base) ∧ w.cell? ⟨g, 1, none⟩ = some (.int .i64 T.most) := ⟨hb.cell 0, hb.cell 1⟩
  obtain ⟨base, most, tries, l⟩ := T
  obtain ⟨b1, b2, m1, m2, t0, t1⟩ := hm
  simp only at b1 b2 m1 m2 t0 t1 c0 c1
  go_enter Try.func84, Try.ntmps84
  go_wp2
  go_loop [1, 5] (fun x y => ∃ (k : Nat) (o : Int), x = .int .i64 k ∧ y = .int .i64 o ∧ k ≤ 1000 ∧ 1 ≤ o ∧ o ≤ 2000 ∧ Hid (Mp.grow most k o = Mp.grow most n.toNat base)) (fun x _ => (intOf x).toNat)
  case atStart => exact ⟨n.toNat, base, by rw [Int.toNat_of_nonneg h0], rfl, by omega, b1, by omega, Lib.hid rfl⟩
  case round =>
    obtain ⟨k, o, rfl, rfl, hk, ho1, ho2, HG⟩ := hrel
    have hko : (k : Int) ≤ 1000 := by omega
    by_cases hgo : 0 < k ∧ o < most
    · obtain ⟨k1, rfl⟩ : ∃ k1, k = k1 + 1 := ⟨k - 1, by omega⟩
      have hlt : o < most := hgo.2
      have HG2 : Hid (Mp.grow most k1 (o * 2) = Mp.grow most n.toNat base) := by
        have := HG.out; rw [grow_lt hlt] at this; rw [Int.mul_comm]; exact Lib.hid this
      have hw1 : wrap64 (o * 2) = o * 2 := IntWalk.wrap64_in _ ⟨by omega, by omega⟩
      clear HG
      go_wp2
      refine ⟨⟨k1, o * 2, by go_num, rfl, by omega, by omega, by omega, HG2⟩, by simp [intOf]⟩
    · have HG2 : Hid (o = Mp.grow most n.toNat base) := by
        have := HG.out
        by_cases h : o < most
        · have : k = 0 := by omega
          subst this
          exact HG
        · rw [grow_ge h] at this; exact Lib.hid this
      clear HG
      by_cases hk0 : 0 < k
      · have hno : ¬ o < most := fun h => hgo ⟨hk0, h⟩
        clear hgo
        go_wp2
        all_goals
          go_ret
          exact ⟨by simp [Mp.Timer.wait, ← HG2.out]; omega, rfl⟩
      · have hk1 : k = 0 := by omega
        subst hk1
        clear hgo
        go_wp2
        all_goals
          go_ret
          exact ⟨by simp [Mp.Timer.wait, ← HG2.out]; omega, rfl⟩

set_option maxRecDepth 100000 in
set_option maxHeartbeats 400000 in
theorem timerStart {w : World} {g m : Nat} {T : Mp.Timer} (h : IsT w g m T) (hm : MayT T) (id now : Int) (h0 : 0 ≤ now) (hn : now ≤ 1099511627776) (hid : id ∉ T.l.map (·.id)) :
    Calls Try.prog 81 #[.pointer (some ⟨g, 0, none⟩), .int .i64 id, .int .i64 now] w fun e w' => e = .returned (.tuple #[]) ∧ IsT w' g m { T with l := T.l ++ [⟨id, now + T.wait 0, 0⟩] } ∧ Upd [m] w w' := by
  have HW := Lib.hid (timerWait h.drew hm 0 (by omega) (by omega))
  have hmd := h.map.drew
  have hid' : id ∉ (waits T.l).map Prod.fst := by rw [waits_fst]; exact hid
  have hb := h.blk
  have c3 : w.cell? ⟨g, 3, none⟩ = some (.map (some m)) := hb.cell 3
  have hzb := wait_bounds hm 0
  have hwr : IntKind.i64.wrap (now + T.wait 0) = now + T.wait 0 := IntWalk.i64_in _ (by omega)
  obtain ⟨w2, hr2, hm2, hu2⟩ := hmd.add (P := Try.prog) Try.underlying123 Try.underlying3 id hid' (.agg #[.int .i64 (now + T.wait 0), .int .i64 0])
  go_enter Try.func81, Try.ntmps81
  go_wp2
  go_region_with (go_at_call 84; (with_reducible refine HW.out.mono ?_); rintro e w1 ⟨rfl, rfl⟩)
  all_goals
    go_end0
    refine ⟨rfl, ⟨hu2.blk hb.drew (by have := h.map.ne_blk hb; simp; omega), ?_⟩, (Upd.refl _ w).drew.trans hu2 (by simp)⟩
    rw [waits, List.map_append]
    exact hm2

theorem senderNew (w : World) (g : Nat) (window : Int) (h1 : 1 ≤ window) (h2 : window ≤ 16) :
    Calls Try.prog 47 #[.int .i64 window, .pointer (some ⟨g, 0, none⟩)] w fun e w' => ∃ s m, e = .returned (.tuple #[.pointer (some ⟨s, 0, none⟩), .int .i64 0]) ∧
      Blk w' s 128 #[.pointer (some ⟨g, 0, none⟩), .int .i64 window, .int .i64 0, .map (some m), .bool false] ∧ MapI w' m [] ∧ Below w.heap.size w w' ∧ w.heap.size ≤ s ∧ w.heap.size ≤ m := by
  have d1 : decide (window < 1) = false := by simp; omega
  have d2 : decide (16 < window) = false := by simp; omega
  go_enter Try.func47, Try.ntmps47
  go_wp2
  go_ret2
  refine ⟨_, _, rfl, Blk.newAt _ _ _ _ (by simp), (MapI.new w).alloc _, ((Below.refl _ w).alloc (Nat.le_refl _) _).alloc (by simp) _, by simp, Nat.le_refl _⟩

theorem takerNew (w : World) (window : Int) (h1 : 1 ≤ window) (h2 : window ≤ 16) :
    Calls Try.prog 48 #[.int .i64 window] w fun e w' => ∃ s m, e = .returned (.tuple #[.pointer (some ⟨s, 0, none⟩), .int .i64 0]) ∧
      Blk w' s 130 #[.int .i64 window, .int .i64 0, .map (some m)] ∧ MapI w' m [] ∧ Below w.heap.size w w' ∧ w.heap.size ≤ s ∧ w.heap.size ≤ m := by
  have d1 : decide (window < 1) = false := by simp; omega
  have d2 : decide (16 < window) = false := by simp; omega
  go_enter Try.func48, Try.ntmps48
  go_wp2
  go_ret2
  refine ⟨_, _, rfl, Blk.newAt _ _ _ _ (by simp), (MapI.new w).alloc _, ((Below.refl _ w).alloc (Nat.le_refl _) _).alloc (by simp) _, by simp, Nat.le_refl _⟩

theorem takerNext {w : World} {g : Nat} {window next : Int} {m : Nat} (h : Blk w g 130 #[.int .i64 window, .int .i64 next, .map (some m)]) :
    Calls Try.prog 63 #[.pointer (some ⟨g, 0, none⟩)] w fun e w' => e = .returned (.int .i64 next) ∧ w = w' := by
  have c1 : w.cell? ⟨g, 1, none⟩ = some (.int .i64 next) := h.cell 1
  go_enter Try.func63, Try.ntmps63
  go_wp2
  go_ret
  exact ⟨rfl, rfl⟩

theorem senderOver {w : World} {g m : Nat} {t : Value} {window next : Int} {over : Bool} (h : Blk w g 128 #[t, .int .i64 window, .int .i64 next, .map (some m), .bool over]) :
    Calls Try.prog 75 #[.pointer (some ⟨g, 0, none⟩)] w fun e w' => e = .returned (.bool over) ∧ w = w' := by
  have c1 : w.cell? ⟨g, 4, none⟩ = some (.bool over) := h.cell 4
  go_enter Try.func75, Try.ntmps75
  go_wp2
  go_ret
  exact ⟨rfl, rfl⟩

set_option maxRecDepth 100000 in
set_option maxHeartbeats 400000 in
theorem senderRoom {w : World} {g m : Nat} {t : Value} {window next : Int} {over : Bool} {es : List (Int × Value)} (h : Blk w g 128 #[t, .int .i64 window, .int .i64 next, .map (some m), .bool over]) (hm : MapI w m es) (h1 : 1 ≤ window) (h2 : window ≤ 16) (hl : es.length ≤ 1000000) :
    Calls Try.prog 77 #[.pointer (some ⟨g, 0, none⟩)] w fun e w' => e = .returned (.int .i64 (if over then 0 else window - es.length)) ∧ ∃ n, w' = w.drewN n := by
  have c1 : w.cell? ⟨g, 1, none⟩ = some (.int .i64 window) := h.cell 1
  have c3 : w.cell? ⟨g, 3, none⟩ = some (.map (some m)) := h.cell 3
  have HO := Lib.hid (senderOver h)
  have hwr : wrap64 (window - (es.length : Int)) = window - es.length := IntWalk.wrap64_in _ ⟨by omega, by omega⟩
  have hsz := fun n => (hm.drewN n).size (P := Try.prog) Try.underlying126 3
  cases over
  · go_enter Try.func77, Try.ntmps77
    go_wp2_with (go_at_call 75; (with_reducible refine HO.out.mono ?_); rintro e w1 ⟨rfl, rfl⟩)
    go_quiet (fail)
    go_wp2
    go_ret
    exact ⟨by simp, _, rfl⟩
  · go_enter Try.func77, Try.ntmps77
    go_wp2_with (go_at_call 75; (with_reducible refine HO.out.mono ?_); rintro e w1 ⟨rfl, rfl⟩)
    go_ret
    exact ⟨by simp, 0, rfl⟩
end Go.Proofs.Ytemcpldipjbleaa
