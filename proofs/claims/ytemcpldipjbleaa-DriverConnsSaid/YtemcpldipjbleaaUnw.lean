/- frame.Unwrap. -/
import Derived.Test.YtemcpldipjbleaaFrameR
import Derived.Test.YtemcpldipjbleaaDec
import Derived.Deep.RegionHeld3
import Derived.Deep.DrawnRows
namespace Go.Proofs.Ytemcpldipjbleaa
open Go.RowKit
attribute [local go_sem ↓] Go.wp_at_zero Go.wp_at_succ

/-- a kind and a body in memory of its own, or an error -/
def RetU (w : World) (r : Option (Int × Mp.Bytes)) (e : Ending) (w' : World) : Prop :=
  Below w.heap.size w w' ∧ match r with
  | none => ∃ k, k ≠ 0 ∧ e = .returned (.tuple #[.int .i64 0, .slice none 0 0, .int .i64 k])
  | some (kd, l) => ∃ A' c', e = .returned (.tuple #[.int .i64 kd, .slice A' l.length c', .int .i64 0]) ∧ OwnS w' 5 1 A' l.length c' (bv l) ∧ ∀ k, k ∈ fp A' c' → w.heap.size ≤ k

set_option maxRecDepth 100000 in
set_option maxHeartbeats 400000 in
theorem unwShort (A : Option Addr) (b : Mp.Bytes) (c : Nat) (w : World) (h : b.length < 9) :
    Calls Try.prog 53 #[.slice A b.length c] w (RetU w (Mp.unwrap b)) := by
  have HU := Lib.hid (show Mp.unwrap b = none by unfold Mp.unwrap; rw [if_pos (.inl h)])
  rw [HU.out]
  have d : decide ((b.length : Int) < 9) = true := by simp; omega
  go_enter Try.func53, Try.ntmps53
  go_wp2
  go_ret3
  exact ⟨Below.refl _ _, 2, by decide, rfl⟩

set_option maxRecDepth 100000 in
set_option maxHeartbeats 400000 in
theorem unwFirst (A : Option Addr) (x : UInt8) (b : Mp.Bytes) (c : Nat) (w : World) (hs : Seg w 5 A (bv (x :: b))) (h : 9 ≤ (x :: b).length) (hx : x ≠ 77) :
    Calls Try.prog 53 #[.slice A (x :: b).length c] w (RetU w (Mp.unwrap (x :: b))) := by
  have HU := Lib.hid (show Mp.unwrap (x :: b) = none by unfold Mp.unwrap; rw [if_pos (.inr (by simpa using hx))])
  rw [HU.out]
  obtain ⟨b0, o, rfl, hc⟩ := hs.cell (j := 0) (by simp [bv])
  generalize hn : (x :: b).length = n at h ⊢
  have d : decide ((n : Int) < 9) = false := by simp; omega
  have hc' : w.cell? ⟨b0, o, none⟩ = some (.int .u8 (x.toNat : Int)) := by simpa [bv] using hc
  have hx' : ((x.toNat : Int) != 77) = true := by
    rw [bne_iff_ne]
    intro h
    apply hx
    apply UInt8.toNat_inj.1
    have : (77 : UInt8).toNat = 77 := rfl
    omega
  clear hc
  go_enter Try.func53, Try.ntmps53
  go_wp2
  go_ret3
  exact ⟨Below.refl _ _, 2, by decide, rfl⟩

theorem IsR.drew {w : World} {B g : Nat} {s : Mp.Bytes × Bool} (h : IsR w B g s) : IsR w.drew B g s := h.below ((Below.refl _ _).drew)
theorem IsR.alloc {w : World} {B g : Nat} {s : Mp.Bytes × Bool} (h : IsR w B g s) (o : Obj) : IsR (w.alloc o) B g s := h.below ((Below.refl _ _).alloc (Nat.le_refl _) _)

set_option maxRecDepth 100000 in
set_option maxHeartbeats 400000 in
theorem unwRest (A : Option Addr) (x : UInt8) (b0 : Mp.Bytes) (c : Nat) (w : World) (hs : Seg w 5 A (bv (x :: b0))) (h : 9 ≤ (x :: b0).length) (hx : x = 77) (hb : (x :: b0).length ≤ 35184372088832) (hcap : (x :: b0).length ≤ c) :
    Calls Try.prog 53 #[.slice A (x :: b0).length c] w (RetU w (Mp.unwrap (x :: b0))) := by
  obtain ⟨bb, o, hA, hc⟩ := hs.cell (j := 0) (by simp [bv])
  obtain ⟨b, hbb⟩ : ∃ b, b = x :: b0 := ⟨_, rfl⟩
  have hcx : w.cell? ⟨bb, o, none⟩ = some (.int .u8 77) := by
    have : (77 : UInt8).toNat = 77 := rfl
    simpa [bv, hx] using hc
  have hhead : b.head? = some 77 := by rw [hbb, hx]; rfl
  rw [← hbb] at hs h hb hcap ⊢
  clear hbb hc
  have d : decide ((b.length : Int) < 9) = false := by simp; omega
  obtain ⟨v, hv⟩ : ∃ v, v = Mp.num ((b.drop 1).take 1) := ⟨_, rfl⟩
  obtain ⟨kd, hkd⟩ : ∃ v, v = Mp.num ((b.drop 2).take 1) := ⟨_, rfl⟩
  obtain ⟨n, hn⟩ : ∃ n : Nat, n = (Mp.num ((b.drop 3).take 2)).toNat := ⟨_, rfl⟩
  have hnb := Mp.num_take_lt (b.drop 3) 2
  rw [show (256 : Int) ^ 2 = 65536 from rfl] at hnb
  have hn2 : Mp.num ((b.drop 3).take 2) = (n : Int) := by omega
  have hvb := Mp.num_take_lt (b.drop 1) 1
  have hkb := Mp.num_take_lt (b.drop 2) 1
  rw [← hv] at hvb
  rw [← hkd] at hkb
  rw [show (256 : Int) ^ 1 = 256 from rfl] at hvb hkb
  have hnb2 : n < 65536 := by omega
  have R1 := Lib.hid (show Mp.rraw 1 (b, false) = (b.take 1, (b.drop 1, false)) from Mp.rraw_ok (k := 1) (by omega))
  have R2 := Lib.hid (show Mp.rnum 1 (b.drop 1, false) = (v, (b.drop 2, false)) by
    have := Mp.rnum_ok (k := 1) (l := b.drop 1) (by simp; omega); rw [hv]; simpa using this)
  have R3 := Lib.hid (show Mp.rnum 1 (b.drop 2, false) = (kd, (b.drop 3, false)) by
    have := Mp.rnum_ok (k := 1) (l := b.drop 2) (by simp; omega); rw [hkd]; simpa using this)
  have R4 := Lib.hid (show Mp.rnum 2 (b.drop 3, false) = ((n : Int), (b.drop 5, false)) by
    have := Mp.rnum_ok (k := 2) (l := b.drop 3) (by simp; omega); rw [← hn2]; simpa using this)
  have HU : Hid (Mp.unwrap b = if b.length ≠ n + 9 then none
    else if Mp.num ((b.drop (5 + n)).take 4) ≠ ((Mp.crc (b.take (5 + n))).toNat : Int) then none
    else if v ≠ 3 then none
    else if 2000 < n then none
    else some (kd, (b.drop 5).take n)) := by
    refine Lib.hid ?_
    unfold Mp.unwrap
    rw [if_neg (by rintro (h1 | h1); omega; exact h1 hhead)]
    simp only [← hn, ← hv, ← hkd]
  clear hn2 hn hv hkd hnb hhead
  go_enter Try.func53, Try.ntmps53
  subst hA
  go_wp2_with fail
  refine (rRead _ b c hs (by omega)).mono ?_
  rintro e w1 ⟨g, rfl, r1, b1⟩
  go_wp2_with fail
  refine (rRaw r1 1 (by simp; omega)).mono ?_
  rw [R1.out]
  rintro e w2 ⟨A2, c2, rfl, o2, f2, r2, b2, u2⟩
  clear o2 f2
  go_wp2_with fail
  refine (rNum r2 1 (by omega) (by omega) (by simp; omega)).mono ?_
  rw [R2.out]
  rintro e w3 ⟨rfl, r3, b3, u3⟩
  go_wp2_with fail
  refine (rNum r3 1 (by omega) (by omega) (by simp; omega)).mono ?_
  rw [R3.out]
  rintro e w4 ⟨rfl, r4, b4, u4⟩
  go_wp2_with fail
  refine (rNum r4 2 (by omega) (by omega) (by simp; omega)).mono ?_
  rw [R4.out]
  rintro e w5 ⟨rfl, r5, b5, u5⟩
  have b5' : Below w.heap.size w w5 := ((((b1.trans b2).trans b3).trans b4).trans b5)
  clear b1 b2 b3 b4 b5 r1 r2 r3 r4 u2 u3 u4 u5
  obtain ⟨m, hm⟩ : ∃ m : Nat, m = 5 + n := ⟨_, rfl⟩
  rw [← hm] at HU
  by_cases hlen : b.length = n + 9
  · have hne : ((b.length : Int) != 5 + n + 4) = false := by simp; omega
    have hbr := hs.below b5'
    have hD := Mp.rraw_ok (k := n) (l := b.drop 5) (by simp; omega)
    simp only [List.drop_drop] at hD
    rw [← hm] at hD
    have hS : Mp.rnum 4 (b.drop m, false) = (Mp.num ((b.drop m).take 4), ((b.drop m).drop 4, false)) := Mp.rnum_ok (k := 4) (l := b.drop m) (by simp; omega)
    have hsb := Mp.num_take_lt (b.drop m) 4
    obtain ⟨s, hs4⟩ : ∃ s, s = Mp.num ((b.drop m).take 4) := ⟨_, rfl⟩
    rw [← hs4] at hS hsb HU
    obtain ⟨l, hl⟩ : ∃ l, l = b.take m := ⟨_, rfl⟩
    rw [← hl] at HU
    have hll : l.length = m := by rw [hl, List.length_take]; omega
    have hls : Seg w5 5 (some ⟨bb, o, none⟩) (bv l) := by rw [hl, bv_take]; exact hbr.take m
    obtain ⟨q, hq⟩ : ∃ q, q = (Mp.crc l).toNat := ⟨_, rfl⟩
    have hqb := u32_lt (Mp.crc l)
    rw [← hq] at HU hqb
    obtain ⟨body, hbody⟩ : ∃ y, y = (b.drop 5).take n := ⟨_, rfl⟩
    have hbl : body.length = n := by rw [hbody, List.length_take, List.length_drop]; omega
    rw [← hbody] at HU hD
    have HD := Lib.hid hD
    have HS := Lib.hid hS
    have HL := Lib.hid hlen
    have HQ := Lib.hid hq
    have HM := Lib.hid hm
    have hmc : (m : Int) ≤ (c : Int) := by omega
    have hml : (m : Int) ≤ (b.length : Int) := by omega
    have hm0 : (0 : Int) ≤ (m : Int) := by omega
    have hbig : b.length ≤ 70000 := by omega
    have hdl : (b.drop m).length ≤ 70368744177664 := by simp; omega
    clear hD hS hs4 hl hq hbody hlen hbr hm
    go_wp2_with fail
    refine (rRaw r5 n (by simp; omega)).mono ?_
    rw [HD.out]
    rintro e w6 ⟨A6, c6, rfl, o6, f6, r6, b6, u6⟩
    have b6' : Below w.heap.size w w6 := b5'.trans b6
    have hbg : bb ≠ g := by
      have := r5.1
      obtain ⟨_, _, e1, e2, _⟩ := hs.cells (by rw [bv_length]; omega)
      cases e1; omega
    have hgl : g < w5.heap.size := by obtain ⟨_, _, _, hg, _⟩ := r5; exact hg.lt
    simp only at r6 o6
    rw [hbl] at o6
    have hl6 : Seg w6 5 (some ⟨bb, o, none⟩) (bv l) := hls.upd u6 (by intro a ha _; cases ha; simp; intro e; exact hbg e)
    have hs6 := b6.size
    have hfar : ∀ {w7}, Upd [g] (w6.drew.alloc (.cells #[.slice (some ⟨bb, o, none⟩) m c] 36)) w7 → ∀ a : Addr, (some ⟨w6.heap.size, 0, none⟩ : Option Addr) = some a → 0 < [Value.slice (some ⟨bb, o, none⟩) m c].length → a.block ∉ [g] := by
      intro w7 _ a ha _
      cases ha
      simp
      omega
    go_wp2_with fail
    have hwm : IntKind.i64.wrap (5 + (n : Int)) = m := by rw [IntWalk.i64_in _ (by omega)]; have := HM.out; omega
    go_region_with (first
      | (go_at_call 55; (with_reducible refine (rNum (s := (b.drop m, false)) (B := w.heap.size) ?_ 4 (by omega) (by omega) hdl).mono ?_); (first | exact r6.drew | exact (r6.drew.alloc _)); rw [HS.out]; rintro e w7 ⟨rfl, r7, b7, u7⟩)
      | (go_at_call 71; go_loud ((with_reducible refine (sum_any _ (some ⟨bb, o, none⟩) l 1 c _ ?_ ?_ (by omega)).mono ?_); (rw [hll]; first | exact Seg.newAt _ _ [.slice (some ⟨bb, o, none⟩) m c] _ rfl | exact Seg.upd (F := [g]) (Seg.newAt w6.drew 36 [.slice (some ⟨bb, o, none⟩) m c] w6.heap.size rfl) u7 (hfar u7)); (first | exact ((hl6.drew.upd u7 (by intro a ha _; cases ha; simp; exact hbg)).alloc _) | exact ((hl6.drew.alloc _).upd u7 (by intro a ha _; cases ha; simp; exact hbg))); rw [← HQ.out]; rintro e w8 ⟨rfl, rfl⟩)))
    all_goals
      have hwq : IntKind.i64.wrap (q : Int) = q := IntWalk.i64_in _ (by omega)
      have hfg : ∀ k, k ∈ fp A6 c6 → k ∉ [g] := fun k hk e => by simp at e; subst e; have := f6 _ hk; omega
      have hws := b5'.size
      have hf6 : ∀ k, k ∈ fp A6 c6 → w.heap.size ≤ k := fun k hk => Nat.le_trans hws (f6 k hk)
      clear hfar hl6 HS r6 r7 hls hs R1 R2 R3 R4 hwm hne hsb hqb HM HD HQ hml hmc hm0 hdl hll
      by_cases e1 : s = (q : Int)
      · have d1 : (s != IntKind.i64.wrap (q : Int)) = false := by rw [hwq]; simpa using e1
        clear hwq
        by_cases e2 : v = 3
        · have d2 : (v != (3 : Int)) = false := by simpa using e2
          by_cases e3 : 2000 < n
          · have HU2 : Hid (Mp.unwrap b = none) := by
              refine Lib.hid ?_
              rw [HU.out, if_neg (fun h => h HL.out), if_neg (fun h => h e1), if_neg (fun h => h e2), if_pos e3]
            clear HU e1 e2
            go_wp2
            go_ret3
            refine ⟨?_, ?_⟩
            · first | exact (b6'.drew.trans b7).alloc (by have := b7.size; have := b6.size; simp at *; omega) _ | exact (b6'.drew.alloc (by have := b6.size; simp at *; omega) _).trans b7
            · rw [HU2.out]; exact ⟨_, by decide, rfl⟩
          · have HU2 : Hid (Mp.unwrap b = some (kd, body)) := by
              refine Lib.hid ?_
              rw [HU.out, if_neg (fun h => h HL.out), if_neg (fun h => h e1), if_neg (fun h => h e2), if_neg e3]
            have d3 : decide (2000 < (n : Int)) = false := by simp; omega
            clear HU e1 e2
            go_wp2
            go_ret3
            refine ⟨?_, ?_⟩
            · first | exact (b6'.drew.trans b7).alloc (by have := b7.size; have := b6.size; simp at *; omega) _ | exact (b6'.drew.alloc (by have := b6.size; simp at *; omega) _).trans b7
            · rw [HU2.out]
              simp only
              rw [hbl]
              refine ⟨_, _, rfl, ?_, hf6⟩
              first | exact ((o6.below (Below.refl _ _).drew).upd u7 hfg).below ((Below.refl _ _).alloc (Nat.le_refl _) _) | exact (o6.below ((Below.refl _ _).drew.alloc (by simp) _)).upd u7 hfg
        · have d2 : (v != (3 : Int)) = true := by simpa using e2
          have HU2 : Hid (Mp.unwrap b = none) := by
            refine Lib.hid ?_
            rw [HU.out, if_neg (fun h => h HL.out), if_neg (fun h => h e1), if_pos e2]
          clear HU e1 e2
          go_wp2
          go_ret3
          refine ⟨?_, ?_⟩
          · first | exact (b6'.drew.trans b7).alloc (by have := b7.size; have := b6.size; simp at *; omega) _ | exact (b6'.drew.alloc (by have := b6.size; simp at *; omega) _).trans b7
          · rw [HU2.out]; exact ⟨_, by decide, rfl⟩
      · have d1 : (s != IntKind.i64.wrap (q : Int)) = true := by rw [hwq]; simpa using e1
        clear hwq
        have HU2 : Hid (Mp.unwrap b = none) := by
          refine Lib.hid ?_
          rw [HU.out, if_neg (fun h => h HL.out), if_pos e1]
        clear HU e1
        go_wp2
        go_ret3
        refine ⟨?_, ?_⟩
        · first | exact (b6'.drew.trans b7).alloc (by have := b7.size; have := b6.size; simp at *; omega) _ | exact (b6'.drew.alloc (by have := b6.size; simp at *; omega) _).trans b7
        · rw [HU2.out]; exact ⟨_, by decide, rfl⟩
  · have hne : ((b.length : Int) != 5 + n + 4) = true := by simp; omega
    have HM := Lib.hid hm
    have HL := Lib.hid hlen
    clear hm hlen
    go_wp2
    go_ret3
    refine ⟨b5', ?_⟩
    rw [HU.out, if_pos HL.out]
    exact ⟨2, by decide, rfl⟩

theorem frameUnwrap (A : Option Addr) (b : Mp.Bytes) (c : Nat) (w : World) (hs : Seg w 5 A (bv b)) (hcap : b.length ≤ c) (hb : b.length ≤ 35184372088832) :
    Calls Try.prog 53 #[.slice A b.length c] w (RetU w (Mp.unwrap b)) := by
  by_cases h : b.length < 9
  · exact unwShort A b c w h
  · cases b with
    | nil => simp at h
    | cons x b =>
      by_cases hx : x = 77
      · exact unwRest A x b c w hs (by omega) hx hb hcap
      · exact unwFirst A x b c w hs (by omega) hx
end Go.Proofs.Ytemcpldipjbleaa
