/- milepostref1.Unwrap. -/
import Derived.Test.YtemcpldipjbleaaRefG
import Derived.Test.YtemcpldipjbleaaUnw
import Derived.BigQuiet
import Derived.Deep.RegionHeld3
import Derived.Deep.DrawnRows
import Derived.Deep.QuietTactic
namespace Go.Proofs.Ytemcpldipjbleaa
open Go.RowKit
attribute [local go_sem ↓] Go.wp_at_zero Go.wp_at_succ

theorem i64_byte (x : UInt8) : IntKind.i64.wrap (x.toNat : Int) = x.toNat := IntWalk.i64_in _ (by have := x.toNat_lt; omega)
theorem wrap64_byte' (x : UInt8) : wrap64 (x.toNat : Int) = x.toNat := IntWalk.wrap64_in _ ⟨by omega, by have := x.toNat_lt; omega⟩
theorem run_cutTo {P : Program} {T e : TypeId} {sz : Nat} (ht : P.underlying T = some (.slice e)) (hs : ∀ W, (sizeOf e).run P W = .ok sz W) (A : Option Addr) (n c k : Nat) (x : Int) (hx : x = k) (hk : k ≤ n) (hn : n ≤ c) (W : World) :
    (Instr.slice T (.slice A n c) none (some (.int .i64 x)) none).run P W = .ok (.slice A k c) W := by
  subst hx
  have h1 : ¬ c < k := by omega
  have h2 : k ≤ c := by omega
  have h3 : c = 0 → A.map (·.add 0) = A := fun _ => by cases A <;> simp [Addr.add]
  cases A <;> simp [Instr.slice, run_underlying ht, Instr.sliceBounds, Instr.sliceBound, asIntOf, h2, hs, Addr.add]
theorem run_cutMid {P : Program} {T e : TypeId} (ht : P.underlying T = some (.slice e)) (hs : ∀ W, (sizeOf e).run P W = .ok 1 W) (b o n c j k : Nat) (x y : Int) (hx : x = j) (hy : y = k) (hj : j ≤ k) (hk : k ≤ n) (hn : n ≤ c) (hc : j < c) (W : World) :
    (Instr.slice T (.slice (some ⟨b, o, none⟩) n c) (some (.int .i64 x)) (some (.int .i64 y)) none).run P W = .ok (.slice (some ⟨b, o + j, none⟩) (k - j) (c - j)) W := by
  subst hx hy
  have h1 : k ≤ c := by omega
  have h2 : j ≤ k := by omega
  have h3 : ¬ c = j := by omega
  simp [Instr.slice, run_underlying ht, Instr.sliceBounds, Instr.sliceBound, asIntOf, h1, h2, h3, hs, Addr.add_lit]

set_option maxRecDepth 100000 in
set_option maxHeartbeats 400000 in
theorem refUnwRest (A : Option Addr) (b : Mp.Bytes) (c : Nat) (w : World) (hs : Seg w 5 A (bv b)) (hb : b.length ≤ 35184372088832) (hcap : b.length ≤ c) (h9 : 9 ≤ b.length) :
    Calls Try.prog 30 #[.slice A b.length c] w (RetU w (Mp.unwrap b)) := by
  obtain ⟨x0, x1, x2, x3, x4, r, hbr⟩ : ∃ x0 x1 x2 x3 x4 r, b = x0 :: x1 :: x2 :: x3 :: x4 :: r := by
    match b, h9 with
    | x0 :: x1 :: x2 :: x3 :: x4 :: r, _ => exact ⟨x0, x1, x2, x3, x4, r, rfl⟩
  obtain ⟨bb, o, hA, hbw, hce⟩ := hs.cells (by rw [bv_length]; omega)
  have k0 : w.cell? ⟨bb, o, none⟩ = some (.int .u8 (x0.toNat : Int)) := hce 0 _ (by rw [hbr]; rfl)
  have k1 : ∀ m, (w.drewN m).cell? ⟨bb, o + 1, none⟩ = some (.int .u8 (x1.toNat : Int)) := fun _ => hce 1 _ (by rw [hbr]; rfl)
  have k2 : ∀ m, (w.drewN m).cell? ⟨bb, o + 2, none⟩ = some (.int .u8 (x2.toNat : Int)) := fun _ => hce 2 _ (by rw [hbr]; rfl)
  have k3 : ∀ m, (w.drewN m).cell? ⟨bb, o + 3, none⟩ = some (.int .u8 (x3.toNat : Int)) := fun _ => hce 3 _ (by rw [hbr]; rfl)
  have k4 : ∀ m, (w.drewN m).cell? ⟨bb, o + 4, none⟩ = some (.int .u8 (x4.toNat : Int)) := fun _ => hce 4 _ (by rw [hbr]; rfl)
  obtain ⟨n, hn⟩ : ∃ n : Nat, (n : Int) = x3.toNat * 256 + x4.toNat := ⟨x3.toNat * 256 + x4.toNat, by omega⟩
  have HU := Lib.hid (Mp.unwrap_cons x0 x1 x2 x3 x4 r hbr h9 hn)
  have hor := shl8_or (x3.toNat : Int) x4 (by omega) (by have := x3.toNat_lt; omega)
  rw [← hn] at hor
  have hn2 : n < 65536 := by have := x3.toNat_lt; have := x4.toNat_lt; omega
  have HBR := Lib.hid hbr
  clear hbr hce hn
  subst hA
  have d : decide ((b.length : Int) < 9) = false := by simp; omega
  have hx0 := x0.toNat_lt
  by_cases e0 : x0 = 77
  · have d0 : ((x0.toNat : Int) != 77) = false := by subst e0; rfl
    have E0 := Lib.hid e0
    clear e0
    go_enter Try.func30, Try.ntmps30
    go_wp2_with fail
    go_quiet (fail)
    have w3 : wrap64 (x3.toNat : Int) = x3.toNat := IntWalk.wrap64_in _ ⟨by omega, by have := x3.toNat_lt; omega⟩
    have w4 : wrap64 (x4.toNat : Int) = x4.toNat := IntWalk.wrap64_in _ ⟨by omega, by have := x4.toNat_lt; omega⟩
    have w5 : wrap64 ((x3.toNat : Int) * 256) = x3.toNat * 256 := IntWalk.wrap64_in _ ⟨by omega, by have := x3.toNat_lt; omega⟩
    rw [w3, w4, w5, hor]
    clear w3 w4 w5
    have m1 := fun m => k1 (nq + m)
    have m2 := fun m => k2 (nq + m)
    have hs2 : Seg (w.drewN nq) 5 (some ⟨bb, o, none⟩) (bv b) := hs
    have B1 : Below w.heap.size w (w.drewN nq) := ((Upd.refl [] w).drewN nq).to_below
    have j1 : (w.drewN nq).cell? ⟨bb, o + 1, none⟩ = some (.int .u8 (x1.toNat : Int)) := k1 nq
    have j2 : (w.drewN nq).cell? ⟨bb, o + 2, none⟩ = some (.int .u8 (x2.toNat : Int)) := k2 nq
    clear m1 m2
    generalize w.drewN nq = W at hs2 B1 j1 j2 ⊢
    have hw9 : IntKind.i64.wrap ((n : Int) + 9) = (n : Int) + 9 := IntWalk.i64_in _ (by omega)
    have hw5 : IntKind.i64.wrap ((n : Int) + 5) = (n : Int) + 5 := IntWalk.i64_in _ (by omega)
    by_cases hl : b.length = n + 9
    · have d1 : ((b.length : Int) != (n : Int) + 9) = false := by rw [hl]; simp
      have d2 : ((b.length : Int) != IntKind.i64.wrap ((n : Int) + 9)) = false := by rw [hw9]; exact d1
      have hnb : n + 5 ≤ b.length := by omega
      have hnc : (n : Int) + 5 ≤ (c : Int) := by omega
      obtain ⟨L, hL⟩ : ∃ L, L = b.take (5 + n) := ⟨_, rfl⟩
      have hLl : L.length = n + 5 := by rw [hL, List.length_take]; omega
      have hsL : Seg W 5 (some ⟨bb, o, none⟩) (bv L) := by rw [hL, bv_take]; exact hs2.take _
      obtain ⟨S, hS⟩ : ∃ S, S = Mp.summed L := ⟨_, rfl⟩
      have HSum := refSummed (some ⟨bb, o, none⟩) L c W.drew hsL.drew (by omega)
      rw [hLl, ← hS] at HSum
      have HSum := Lib.hid HSum
      rw [← hL, ← hS] at HU
      have HL := Lib.hid hl
      have HLl := Lib.hid hLl
      clear hl hL hLl hS
      have hcut : ∀ X, (Instr.slice 36 (.slice (some ⟨bb, o, none⟩) b.length c) none (some (.int .i64 ((n : Int) + 5))) none).run Try.prog X = .ok (.slice (some ⟨bb, o, none⟩) (n + 5) c) X := by
        intro X
        exact run_cutTo Try.underlying36 Try.sizeOf5 _ _ _ _ _ (by omega) hnb hcap X
      have hcb := run_str b (some ⟨bb, o, none⟩) c W.drew hs2.drew
      go_wp2_with fail
      (refine wp_region_held_drew (S := fun W' => (convert 36 9 (.slice (some ⟨bb, o, none⟩) b.length c)).run Try.prog W' = .ok (.string ⟨b.toArray⟩) W') (by kernel_rfl) (hcb) (fun hS => ?_))
      (refine wpAnyH_take (i := 0) (v := ?_) rfl (by kernel_rfl) (by kernel_rfl) (by kernel_rfl) (fun _ _ _ h => h) (Or.inl ⟨by rfl, ?_⟩) hS ?_; rotate_left; (focus (intro w' hSw; (try dsimp only at hSw); go_simp; try (with_reducible rfl))); (try simp only [List.getElem_toArray, List.getElem_cons_zero, Act.put, List.setIfInBounds_toArray, List.set_cons_zero, List.set_cons_succ]))
      (refine wpAnyH_take (i := 1) (v := ?_) rfl (by kernel_rfl) (by kernel_rfl) (by kernel_rfl) (fun _ _ _ h => h) (Or.inl ⟨by rfl, ?_⟩) hS ?_; rotate_left; (focus (intro w' hSw; (try dsimp only at hSw); go_simp; try (with_reducible rfl))); (try simp only [List.getElem_toArray, List.getElem_cons_succ, List.getElem_cons_zero, Act.put, List.setIfInBounds_toArray, List.set_cons_zero, List.set_cons_succ]))
      (refine wpAnyH_take (i := 2) (v := ?_) rfl (by kernel_rfl) (by kernel_rfl) (by kernel_rfl) (fun _ _ _ h => h) (Or.inl ⟨by rfl, ?_⟩) hS ?_; rotate_left; (focus (intro w' hSw; (try dsimp only at hSw); go_simp; try (with_reducible rfl))); (try simp only [List.getElem_toArray, List.getElem_cons_succ, List.getElem_cons_zero, Act.put, List.setIfInBounds_toArray, List.set_cons_zero, List.set_cons_succ]))
      (refine wpAnyH_take (i := 3) (v := ?_) rfl (by kernel_rfl) (by kernel_rfl) (by kernel_rfl) (fun _ _ _ h => h) (Or.inl ⟨by rfl, ?_⟩) hS ?_; rotate_left; (focus (intro w' hSw; (try dsimp only at hSw); go_simp; try (with_reducible rfl))); (try simp only [List.getElem_toArray, List.getElem_cons_succ, List.getElem_cons_zero, Act.put, List.setIfInBounds_toArray, List.set_cons_zero, List.set_cons_succ]))
      (refine wpAnyH_take (i := 4) (v := ?_) rfl (by kernel_rfl) (by kernel_rfl) (by kernel_rfl) (fun _ _ _ h => h) (Or.inl ⟨by rfl, ?_⟩) hS ?_; rotate_left; (focus (intro w' hSw; (try dsimp only at hSw); go_simp; try (with_reducible rfl))); (try simp only [List.getElem_toArray, List.getElem_cons_succ, List.getElem_cons_zero, Act.put, List.setIfInBounds_toArray, List.set_cons_zero, List.set_cons_succ]))
      (refine wpAnyH_take (i := 5) (v := ?_) rfl (by kernel_rfl) (by kernel_rfl) (by kernel_rfl) (fun _ _ _ h => h) (Or.inl ⟨by rfl, ?_⟩) hS ?_; rotate_left; (focus (intro w' hSw; (try dsimp only at hSw); go_simp; try (with_reducible rfl))); (try simp only [List.getElem_toArray, List.getElem_cons_succ, List.getElem_cons_zero, Act.put, List.setIfInBounds_toArray, List.set_cons_zero, List.set_cons_succ]))
      (refine wpAnyH_take (i := 6) (v := ?_) rfl (by kernel_rfl) (by kernel_rfl) (by kernel_rfl) (fun _ _ _ h => h) (Or.inl ⟨by rfl, ?_⟩) hS ?_; rotate_left; (focus (intro w' hSw; (try dsimp only at hSw); go_simp; try (with_reducible rfl))); (try simp only [List.getElem_toArray, List.getElem_cons_succ, List.getElem_cons_zero, Act.put, List.setIfInBounds_toArray, List.set_cons_zero, List.set_cons_succ]))
      (refine wpAnyH_take (i := 7) (v := ?_) rfl (by kernel_rfl) (by kernel_rfl) (by kernel_rfl) (fun _ _ _ h => h) (Or.inl ⟨by rfl, ?_⟩) hS ?_; rotate_left; (focus (intro w' hSw; (try dsimp only at hSw); go_simp; try (with_reducible rfl))); (try simp only [List.getElem_toArray, List.getElem_cons_succ, List.getElem_cons_zero, Act.put, List.setIfInBounds_toArray, List.set_cons_zero, List.set_cons_succ]))
      (refine wpAnyH_take (i := 8) (v := ?_) rfl (by kernel_rfl) (by kernel_rfl) (by kernel_rfl) (fun _ _ _ h => h) (Or.inl ⟨by rfl, ?_⟩) hS ?_; rotate_left; (focus (intro w' hSw; (try dsimp only at hSw); go_simp; try (with_reducible rfl))); (try simp only [List.getElem_toArray, List.getElem_cons_succ, List.getElem_cons_zero, Act.put, List.setIfInBounds_toArray, List.set_cons_zero, List.set_cons_succ]))
      (refine wpAnyH_take (i := 9) (v := ?_) rfl (by kernel_rfl) (by kernel_rfl) (by kernel_rfl) (fun _ _ _ h => h) (Or.inl ⟨by rfl, ?_⟩) hS ?_; rotate_left; (focus (intro w' hSw; (try dsimp only at hSw); go_simp; try (with_reducible rfl))); (try simp only [List.getElem_toArray, List.getElem_cons_succ, List.getElem_cons_zero, Act.put, List.setIfInBounds_toArray, List.set_cons_zero, List.set_cons_succ]))
      (refine wpAnyH_take (i := 12) (v := ?_) rfl (by kernel_rfl) (by kernel_rfl) (by kernel_rfl) (fun _ _ _ h => h) (Or.inl ⟨by rfl, ?_⟩) hS ?_; rotate_left; (focus (intro w' hSw; (try dsimp only at hSw); go_simp; try (with_reducible rfl))); (try simp only [List.getElem_toArray, List.getElem_cons_succ, List.getElem_cons_zero, Act.put, List.setIfInBounds_toArray, List.set_cons_zero, List.set_cons_succ]))
      (refine wpAnyH_take (i := 13) (v := ?_) rfl (by kernel_rfl) (by kernel_rfl) (by kernel_rfl) (fun _ _ _ h => h) (Or.inl ⟨by rfl, ?_⟩) hS ?_; rotate_left; (focus (intro w' hSw; (try dsimp only at hSw); go_simp; try (with_reducible rfl))); (try simp only [List.getElem_toArray, List.getElem_cons_succ, List.getElem_cons_zero, Act.put, List.setIfInBounds_toArray, List.set_cons_zero, List.set_cons_succ]))
      (refine wpAnyH_ready (rs := [10]) (by kernel_rfl) (by simp) (AllReadyH.cons rfl (fun K hK => ?_) AllReadyH.nil))
      (go_simp)
      (with_reducible refine HSum.out.mono ?_)
      rintro e w2 ⟨A2, c2, rfl, o2, b2, f2⟩
      have hcs := run_str S A2 c2 w2 o2.seg
      have hcb2 := run_str b (some ⟨bb, o, none⟩) c w2 (hs2.drew.below b2)
      refine hK.out _ _ ?_ (fun hS => ?_)
      · exact hcb2
      clear hK K
      (try simp only [List.getElem_toArray, List.getElem_cons_succ, List.getElem_cons_zero, Act.put, List.setIfInBounds_toArray, List.set_cons_zero, List.set_cons_succ])
      (refine wpAnyH_ready (rs := [11]) (by kernel_rfl) (by simp) (AllReadyH.cons rfl (fun K hK => ?_) AllReadyH.nil))
      go_simp
      refine hK.out _ _ ?_ (fun hS => ?_)
      · exact hcb2
      clear hK K
      (try simp only [List.getElem_toArray, List.getElem_cons_succ, List.getElem_cons_zero, Act.put, List.setIfInBounds_toArray, List.set_cons_zero, List.set_cons_succ])
      (refine wpAnyH_take (i := 14) (v := ?_) rfl (by kernel_rfl) (by kernel_rfl) (by kernel_rfl) (fun _ _ _ h => h) (Or.inl ⟨by rfl, ?_⟩) hS ?_; rotate_left; (focus (intro w' hSw; (try dsimp only at hSw); go_simp; try (with_reducible rfl))); (try simp only [List.getElem_toArray, List.getElem_cons_succ, List.getElem_cons_zero, Act.put, List.setIfInBounds_toArray, List.set_cons_zero, List.set_cons_succ]))
      (refine wpAnyH_take (i := 15) (v := ?_) rfl (by kernel_rfl) (by kernel_rfl) (by kernel_rfl) (fun _ _ _ h => h) (Or.inl ⟨by rfl, ?_⟩) hS ?_; rotate_left; (focus (intro w' hSw; (try dsimp only at hSw); go_simp; try (with_reducible rfl))); (try simp only [List.getElem_toArray, List.getElem_cons_succ, List.getElem_cons_zero, Act.put, List.setIfInBounds_toArray, List.set_cons_zero, List.set_cons_succ]))
      (refine wpAnyH_done (by kernel_rfl) ?_ _)
      clear hcs hcb hS
      have hbb : bb < W.drew.heap.size := Nat.lt_of_lt_of_le hbw B1.size
      have j1' : w2.cell? ⟨bb, o + 1, none⟩ = some (.int .u8 (x1.toNat : Int)) := (b2.cell (p := ⟨bb, o + 1, none⟩) hbb).trans j1
      have j2' : w2.cell? ⟨bb, o + 2, none⟩ = some (.int .u8 (x2.toNat : Int)) := (b2.cell (p := ⟨bb, o + 2, none⟩) hbb).trans j2
      have B2 : Below w.heap.size w w2 := B1.trans ((Below.refl W.heap.size W).drew.trans b2 |>.mono B1.size)
      have hs3 : Seg w2 5 (some ⟨bb, o, none⟩) (bv b) := hs2.drew.below b2
      generalize hv : (!(S == b)) = v
      cases v
      · have HSb := Lib.hid (show S = b by simpa using hv)
        clear hv
        obtain ⟨i0, hi, hz0, hz1, hz2⟩ := info_parts u8info
        have hbs := HSb.out
        by_cases e1 : x1 = 3
        · have d3 : ((x1.toNat : Int) != 3) = false := by rw [e1]; rfl
          by_cases e2 : 2000 < n
          · have HU2 := Lib.hid (show Mp.unwrap b = none by rw [HU.out, if_pos (.inr (.inr (.inr (.inr e2))))])
            have d4 : (2000 : Int) < (n : Int) := by omega
            clear e1 hbs
            go_wp2_with fail
            go_ret3
            rw [HU2.out]
            exact ⟨B2, 2, by decide, rfl⟩
          · have HU2 := Lib.hid (show Mp.unwrap b = some ((x2.toNat : Int), (b.drop 5).take n) by rw [HU.out, if_neg (by rintro (h | h | h | h | h); exact h E0.out; exact h HL.out; exact h hbs; exact h e1; exact e2 h)])
            have d4 : (n : Int) ≤ 2000 := by omega
            have hc5 : 5 < c := by omega
            have hb2 : 2 < b.length := by omega
            have hb2' : (2 : Int) < (b.length : Int) := by omega
            have hcut2 : ∀ X, (Instr.slice 36 (.slice (some ⟨bb, o, none⟩) b.length c) (some (.int .i64 5)) (some (.int .i64 ((n : Int) + 5))) none).run Try.prog X = .ok (.slice (some ⟨bb, o + 5, none⟩) (n + 5 - 5) (c - 5)) X :=
              fun X => run_cutMid Try.underlying36 Try.sizeOf5 bb o b.length c 5 (n + 5) 5 _ rfl (by omega) (by omega) hnb hcap hc5 X
            rw [Nat.add_sub_cancel] at hcut2
            have hbl : ((b.drop 5).take n).length = n := by rw [List.length_take, List.length_drop]; omega
            have hsg : Seg w2 5 (some ⟨bb, o + 5, none⟩) (bv ((b.drop 5).take n)) := by
              have := (hs3.drop 5).take n
              rw [bv_take, bv_drop]
              simpa [Addr.add_lit] using this
            have HBL := Lib.hid hbl
            clear hbl e1 e2 hbs hcut
            have hx2 := wrap64_byte' x2
            have hlt2 : bb < w2.heap.size := Nat.lt_of_lt_of_le hbb (by have := b2.size; exact this)
            have hba : Below w2.heap.size w2 (w2.drew.alloc (.cells #[] 5)) := (Below.refl _ w2).drew.alloc (Nat.le_refl _) _
            have jA : (w2.drew.alloc (.cells #[] 5)).cell? ⟨bb, o + 2, none⟩ = some (.int .u8 (x2.toNat : Int)) := (hba.cell (p := ⟨bb, o + 2, none⟩) hlt2).trans j2'
            have BA := Lib.hid (show Below w.heap.size w (w2.drew.alloc (.cells #[] 5)) from B2.trans (hba.mono B2.size))
            have HSG := Lib.hid (show Seg (w2.drew.alloc (.cells #[] 5)) 5 (some ⟨bb, o + 5, none⟩) (bv ((b.drop 5).take n)) from hsg.below hba)
            have H63 := Lib.hid (show 0 + n ≤ maxLen from le_maxLen (by omega))
            have H48 := Lib.hid (show (0 + n) * 1 ≤ 140737488355328 by omega)
            have HB4 := Lib.hid (show ∀ w4, Upd (fp (some ⟨w2.heap.size, 0, none⟩) 0) (w2.drew.alloc (.cells #[] 5)) w4 → w4.cell? ⟨bb, o + 2, none⟩ = some (.int .u8 (x2.toNat : Int)) from fun w4 hu =>
              ((hba.trans (upd_below hu (by simp [fp]) (by simp))).cell (p := ⟨bb, o + 2, none⟩) hlt2).trans j2')
            clear hba
            go_wp2_with fail
            (refine wp_region_held_drew (S := fun W' => W'.cell? ⟨bb, o + 2, none⟩ = some (.int .u8 (x2.toNat : Int))) (by kernel_rfl) (j2') (fun hS => ?_))
            (refine wpAnyH_take (i := 0) (v := ?_) rfl (by kernel_rfl) (by kernel_rfl) (by kernel_rfl) (fun _ _ _ h => h) (Or.inl ⟨by rfl, ?_⟩) hS ?_; rotate_left; (focus (intro w' hSw; (try dsimp only at hSw); go_simp; try (with_reducible rfl))); (try simp only [List.getElem_toArray, List.getElem_cons_zero, Act.put, List.setIfInBounds_toArray, List.set_cons_zero, List.set_cons_succ]))
            (refine wpAnyH_take (i := 1) (v := ?_) rfl (by kernel_rfl) (by kernel_rfl) (by kernel_rfl) (fun _ _ _ h => h) (Or.inl ⟨by rfl, ?_⟩) hS ?_; rotate_left; (focus (intro w' hSw; (try dsimp only at hSw); go_simp; try (with_reducible rfl))); (try simp only [List.getElem_toArray, List.getElem_cons_succ, List.getElem_cons_zero, Act.put, List.setIfInBounds_toArray, List.set_cons_zero, List.set_cons_succ]))
            (refine wpAnyH_take (i := 2) (v := ?_) rfl (by kernel_rfl) (by kernel_rfl) (by kernel_rfl) (fun _ _ _ h => h) (Or.inl ⟨by rfl, ?_⟩) hS ?_; rotate_left; (focus (intro w' hSw; (try dsimp only at hSw); go_simp; try (with_reducible rfl))); (try simp only [List.getElem_toArray, List.getElem_cons_succ, List.getElem_cons_zero, Act.put, List.setIfInBounds_toArray, List.set_cons_zero, List.set_cons_succ]))
            (refine wpAnyH_take (i := 3) (v := ?_) rfl (by kernel_rfl) (by kernel_rfl) (by kernel_rfl) (fun _ _ _ h => h) (Or.inl ⟨by rfl, ?_⟩) hS ?_; rotate_left; (focus (intro w' hSw; (try dsimp only at hSw); go_simp; try (with_reducible rfl))); (try simp only [List.getElem_toArray, List.getElem_cons_succ, List.getElem_cons_zero, Act.put, List.setIfInBounds_toArray, List.set_cons_zero, List.set_cons_succ]))
            (refine wpAnyH_take (i := 5) (v := ?_) rfl (by kernel_rfl) (by kernel_rfl) (by kernel_rfl) (fun _ _ _ h => h) (Or.inl ⟨by rfl, ?_⟩) hS ?_; rotate_left; (focus (intro w' hSw; (try dsimp only at hSw); go_simp; try (with_reducible rfl))); (try simp only [List.getElem_toArray, List.getElem_cons_succ, List.getElem_cons_zero, Act.put, List.setIfInBounds_toArray, List.set_cons_zero, List.set_cons_succ]))
            (refine wpAnyH_take (i := 6) (v := ?_) rfl (by kernel_rfl) (by kernel_rfl) (by kernel_rfl) (fun _ _ _ h => h) (Or.inl ⟨by rfl, ?_⟩) hS ?_; rotate_left; (focus (intro w' hSw; (try dsimp only at hSw); go_simp; try (with_reducible rfl))); (try simp only [List.getElem_toArray, List.getElem_cons_succ, List.getElem_cons_zero, Act.put, List.setIfInBounds_toArray, List.set_cons_zero, List.set_cons_succ]))
            (refine wpAnyH_take (i := 7) (v := ?_) rfl (by kernel_rfl) (by kernel_rfl) (by kernel_rfl) (fun _ _ _ h => h) (Or.inl ⟨by rfl, ?_⟩) hS ?_; rotate_left; (focus (intro w' hSw; (try dsimp only at hSw); go_simp; try (with_reducible rfl))); (try simp only [List.getElem_toArray, List.getElem_cons_succ, List.getElem_cons_zero, Act.put, List.setIfInBounds_toArray, List.set_cons_zero, List.set_cons_succ]))
            (refine wpAnyH_take (i := 8) (v := ?_) rfl (by kernel_rfl) (by kernel_rfl) (by kernel_rfl) (fun _ _ _ h => h) (Or.inl ⟨by rfl, ?_⟩) hS ?_; rotate_left; (focus (intro w' hSw; (try dsimp only at hSw); go_simp; try (with_reducible rfl))); (try simp only [List.getElem_toArray, List.getElem_cons_succ, List.getElem_cons_zero, Act.put, List.setIfInBounds_toArray, List.set_cons_zero, List.set_cons_succ]))
            (refine wpAnyH_ready (rs := [4]) (by kernel_rfl) (by simp) (AllReadyH.cons rfl (fun K hK => ?_) AllReadyH.nil))
            go_simp
            refine hK.out _ _ ?_ (fun hS => ?_)
            · exact jA
            clear hK K
            (try simp only [List.getElem_toArray, List.getElem_cons_succ, List.getElem_cons_zero, Act.put, List.setIfInBounds_toArray, List.set_cons_zero, List.set_cons_succ])
            (refine wpAnyH_ready (rs := [9]) (by kernel_rfl) (by simp) (AllReadyH.cons rfl (fun K hK => ?_) AllReadyH.nil))
            refine step_append_s _ (by rfl) _ _ _ (by rfl) 5 5 i0 (.int .u8 0) 1 1 Try.underlying36 hi hz0 hz1 hz2 rfl (some ⟨w2.heap.size, 0, none⟩) 0 0 [] (by rfl) (OwnS.nil _ _ _ _) (some ⟨bb, o + 5, none⟩) n (c - 5) (bv ((b.drop 5).take n)) (by rfl) (by rw [bv_length, HBL.out]; omega) HSG.out (bv_one _) H63.out H48.out ?_
            intro A' cap' w4 hown hup hfp
            refine hK.out _ _ ?_ (fun hS => ?_)
            · exact HB4.out w4 hup
            clear hK K
            (try simp only [List.getElem_toArray, List.getElem_cons_succ, List.getElem_cons_zero, Act.put, List.setIfInBounds_toArray, List.set_cons_zero, List.set_cons_succ])
            (refine wpAnyH_take (i := 10) (v := ?_) rfl (by kernel_rfl) (by kernel_rfl) (by kernel_rfl) (fun _ _ _ h => h) (Or.inl ⟨by rfl, ?_⟩) hS ?_; rotate_left; (focus (intro w' hSw; (try dsimp only at hSw); go_simp; try (with_reducible rfl))); (try simp only [List.getElem_toArray, List.getElem_cons_succ, List.getElem_cons_zero, Act.put, List.setIfInBounds_toArray, List.set_cons_zero, List.set_cons_succ]))
            (refine wpAnyH_take (i := 11) (v := ?_) rfl (by kernel_rfl) (by kernel_rfl) (by kernel_rfl) (fun _ _ _ h => h) (Or.inl ⟨by rfl, ?_⟩) hS ?_; rotate_left; (focus (intro w' hSw; (try dsimp only at hSw); go_simp; try (with_reducible rfl))); (try simp only [List.getElem_toArray, List.getElem_cons_succ, List.getElem_cons_zero, Act.put, List.setIfInBounds_toArray, List.set_cons_zero, List.set_cons_succ]))
            (refine wpAnyH_take (i := 12) (v := ?_) rfl (by kernel_rfl) (by kernel_rfl) (by kernel_rfl) (fun _ _ _ h => h) (Or.inl ⟨by rfl, ?_⟩) hS ?_; rotate_left; (focus (intro w' hSw; (try dsimp only at hSw); go_simp; try (with_reducible rfl))); (try simp only [List.getElem_toArray, List.getElem_cons_succ, List.getElem_cons_zero, Act.put, List.setIfInBounds_toArray, List.set_cons_zero, List.set_cons_succ]))
            (refine wpAnyH_done (by kernel_rfl) ?_ _)
            go_wp2_with fail
            go_ret3
            rw [HU2.out]
            simp only [Nat.zero_add, List.nil_append] at hown ⊢
            refine ⟨(BA.out.trans (upd_below hup (by simp [fp]) (by have := BA.out.size; omega))), A', cap', by simp [HBL.out, i64_byte], by rw [HBL.out]; exact hown, fun k hk => (hfp k hk).elim (fun h => by simp [fp] at h) (fun h => Nat.le_trans BA.out.size h)⟩
        · have d3 : ((x1.toNat : Int) != 3) = true := by
            rw [bne_iff_ne]
            intro h
            apply e1
            apply UInt8.toNat_inj.1
            have : (3 : UInt8).toNat = 3 := rfl
            omega
          have HU2 := Lib.hid (show Mp.unwrap b = none by rw [HU.out, if_pos (.inr (.inr (.inr (.inl e1))))])
          clear e1 hbs
          go_wp2_with fail
          go_ret3
          rw [HU2.out]
          exact ⟨B2, 3, by decide, rfl⟩
      · have HU2 := Lib.hid (show Mp.unwrap b = none by rw [HU.out, if_pos (.inr (.inr (.inl (by simpa using hv))))])
        clear hv
        go_wp2_with fail
        go_ret3
        rw [HU2.out]
        exact ⟨B2, 2, by decide, rfl⟩
    · have d1 : ((b.length : Int) != (n : Int) + 9) = true := by rw [bne_iff_ne]; omega
      have HU2 := Lib.hid (show Mp.unwrap b = none by rw [HU.out, if_pos (.inr (.inl hl))])
      clear hl
      go_wp2_with fail
      go_quiet (fail)
      go_wp2_with fail
      go_ret3
      rw [HU2.out]
      exact ⟨(Upd.of_below B1 []).drewN _ |>.to_below, 2, by decide, rfl⟩
  · have d0 : ((x0.toNat : Int) != 77) = true := by
      rw [bne_iff_ne]
      intro h
      apply e0
      apply UInt8.toNat_inj.1
      have : (77 : UInt8).toNat = 77 := rfl
      omega
    have HU2 := Lib.hid (show Mp.unwrap b = none by rw [HU.out, if_pos (.inl e0)])
    clear e0
    go_enter Try.func30, Try.ntmps30
    go_wp2_with fail
    go_ret3
    rw [HU2.out]
    exact ⟨Below.refl _ _, 2, by decide, rfl⟩

set_option maxRecDepth 100000 in
theorem refUnwrap (A : Option Addr) (b : Mp.Bytes) (c : Nat) (w : World) (hs : Seg w 5 A (bv b)) (hb : b.length ≤ 35184372088832) (hcap : b.length ≤ c) :
    Calls Try.prog 30 #[.slice A b.length c] w (RetU w (Mp.unwrap b)) := by
  by_cases h9 : 9 ≤ b.length
  · exact refUnwRest A b c w hs hb hcap h9
  · have HU2 := Lib.hid (show Mp.unwrap b = none by unfold Mp.unwrap; rw [if_pos (.inl (by omega))])
    have d : decide ((b.length : Int) < 9) = true := by simp; omega
    rw [HU2.out]
    clear h9
    go_enter Try.func30, Try.ntmps30
    go_wp2_with fail
    go_ret3
    exact ⟨Below.refl _ _, 2, by decide, rfl⟩
end Go.Proofs.Ytemcpldipjbleaa
