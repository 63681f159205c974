/- channel.Push, where there is room. -/
import Derived.Test.YtemcpldipjbleaaPays
namespace Go.Proofs.Ytemcpldipjbleaa
open Go.RowKit
attribute [local go_sem ↓] Go.wp_at_zero Go.wp_at_succ

theorem binfo : (Try.prog.info? 36).map (fun i => (i.zero, i.size, i.bytes)) = some (some (.slice none 0 0), 1, 24) := by kernel_rfl

/-- datagrams are handed back, and the channel has turned -/
def Paid (w : World) (x : Chs) (O : Option Addr) (cap : Nat) (gs : List Mp.Gram) (C2 : Mp.Channel) (A : Option Addr) (c : Nat) (w' : World) : Prop :=
  ∃ cs O' cap', OwnS w' 38 6 A gs.length c cs ∧ GramsAt w' gs cs ∧ (∀ k, k ∈ fp A c → w.heap.size ≤ k) ∧ IsC w' x O' cap' C2 ∧ (∀ k, k ∈ fp O' cap' → k ∈ fp O cap ∨ w.heap.size ≤ k) ∧
    Upd ([x.ch, x.sn, x.tm, x.sm] ++ fp O cap) w w' ∧ Keep 5 w w' ∧ MayC C2

theorem OwnS.fp_map {w : World} {e : TypeId} {size : Nat} {A : Option Addr} {n cap : Nat} {xs : List Value} (h : OwnS w e size A n cap xs) {m : Nat} {es : List (Int × Value)} (hm : MapI w m es) : m ∉ fp A cap := by
  intro hk
  unfold fp at hk
  split at hk
  · cases hk
  · obtain ⟨b, o, cur, rfl, hb, _⟩ := h.row (by omega)
    simp at hk
    subst hk
    exact hm.not _ _ _ hb
theorem push_eq {C : Mp.Channel} {now : Int} {b : Mp.Bytes} (ho : C.s.over = false) (hl : C.owed.length < 64) :
    C.push now b = ((({ C with owed := C.owed ++ [b] } : Mp.Channel).pays now).1, 0, (({ C with owed := C.owed ++ [b] } : Mp.Channel).pays now).2) := by
  unfold Mp.Channel.push
  rw [ho, if_neg (by simp), if_neg (by omega)]

/-- a channel whose body was put behind the others -/
theorem IsC.owe {w W : World} {x : Chs} {O : Option Addr} {cap : Nat} {C : Mp.Channel} (h : IsC w x O cap C) {b : Mp.Bytes} {vs : List Value} {v : Value} {A2 : Option Addr} {cap2 : Nat}
    (b3 : Blk W x.ch 105 #[.pointer (some ⟨x.sn, 0, none⟩), .int .i64 C.conn, .pointer (some ⟨x.tk, 0, none⟩), .slice A2 (C.owed.length + 1) cap2]) (hu : Upd (x.ch :: fp O cap) w W) (hk : Keep 5 w W)
    (o1 : OwnS w 36 1 O C.owed.length cap vs) (o2 : IsBs w vs C.owed) (hown : OwnS W 36 1 A2 (C.owed.length + 1) cap2 (vs ++ [v])) (hv : IsB W v b) : IsC W x A2 cap2 { C with owed := C.owed ++ [b] } := by
  obtain ⟨ek, n1, n2⟩ := h.tmap
  obtain ⟨es, m1, m2⟩ := h.snd.map
  have a1 : x.sn ∉ x.ch :: fp O cap := by simp; exact ⟨h.snd.blk.ne_ h.blk (by decide), o1.fp_ne h.snd.blk (by decide)⟩
  have a2 : x.ti ∉ x.ch :: fp O cap := by simp; exact ⟨h.snd.tim.blk.ne_ h.blk (by decide), o1.fp_ne h.snd.tim.blk (by decide)⟩
  have a3 : x.tm ∉ x.ch :: fp O cap := by simp; exact ⟨h.snd.tim.map.ne_blk h.blk, o1.fp_map h.snd.tim.map⟩
  have a4 : x.sm ∉ x.ch :: fp O cap := by simp; exact ⟨m1.ne_blk h.blk, o1.fp_map m1⟩
  have a5 : x.tk ∉ x.ch :: fp O cap := by simp; exact ⟨h.tak.ne_ h.blk (by decide), o1.fp_ne h.tak (by decide)⟩
  have a6 : x.km ∉ x.ch :: fp O cap := by simp; exact ⟨n1.ne_blk h.blk, o1.fp_map n1⟩
  exact ⟨by simpa using b3, h.snd.upd hu hk a1 a2 a3 a4, hu.blk h.tak a5, ⟨ek, n1.upd hu a6, n2.keep hk⟩, h.n1, h.n2, ⟨vs ++ [v], by simpa using hown, (o2.keep hk).snoc hv⟩⟩

set_option maxRecDepth 100000 in
set_option maxHeartbeats 1000000 in
theorem chanPush {w : World} {x : Chs} {O : Option Addr} {cap : Nat} {C : Mp.Channel} (h : IsC w x O cap C) (hm : MayC C) (ho : C.s.over = false) (hl : C.owed.length < 64) (hnx : C.s.next + C.owed.length < 1099511627776) (now : Int) (h0 : 0 ≤ now) (hn : now ≤ 1099511627776)
    (A : Option Addr) (b : Mp.Bytes) (c : Nat) (hb : b.length ≤ 35184372088832) (hs : Seg w 5 A (bv b)) :
    Calls Try.prog 50 #[.pointer (some ⟨x.ch, 0, none⟩), .int .i64 now, .slice A b.length c] w fun e w' => ∃ A' c', e = .returned (.tuple #[.slice A' (C.push now b).1.length c', .int .i64 0]) ∧
      Paid w x O cap (C.push now b).1 (C.push now b).2.2 A' c' w' := by
  obtain ⟨i0, hi, hz0, hz1, hz2⟩ := info_parts binfo
  have HO := chanOver h
  rw [ho] at HO
  have HO := Lib.hid HO
  obtain ⟨vs, o1, o2⟩ := h.owd
  have c3 : w.cell? ⟨x.ch, 3, none⟩ = some (.slice O C.owed.length cap) := h.blk.cell 3
  have d64 : decide ((64 : Int) ≤ (C.owed.length : Int)) = false := by simp; omega
  have HC := Lib.hid (cloneB A b.length c (bv b) w.drew (bv_length b) hs.drew (bv_one b) (by omega))
  have hbk := h.blk.drew
  have hnf := o1.fp_ne h.blk (by decide)
  have H63 := Lib.hid (show C.owed.length + 1 ≤ maxLen from le_maxLen (by omega))
  have H48 := Lib.hid (show (C.owed.length + 1) * 24 ≤ 140737488355328 by omega)
  have o1d := o1.below (Below.refl _ w).drew
  go_enter Try.func50, Try.ntmps50
  go_wp2_with (go_at_call 60; (with_reducible refine HO.out.mono ?_); rintro e w1 ⟨rfl, rfl⟩)
  go_region_law (first
    | (refine step_append_s _ (by rfl) _ _ _ (by rfl) 36 36 i0 (.slice none 0 0) 1 24 Try.underlying32 hi hz0 hz1 hz2 rfl O C.owed.length cap vs (by rfl) HOw.out (some ⟨w1.heap.size, 0, none⟩) 1 1 [.slice Ab b.length cb] (by rfl) rfl HSg.out (by simp [Value.oneCell']) H63.out H48.out ?_; intro A2 cap2 w2 hown hup hfp; have e3 : w2.cell? ⟨x.ch, 3, none⟩ = some (.slice O C.owed.length cap) := (hup.blk bk2 hnf).cell 3; have ef := (hup.blk bk2 hnf).frozen 3)
    | (go_simp; go_wp2_with (go_at_call 69; (with_reducible refine HC.out.mono ?_); rintro e w1 ⟨Ab, cb, rfl, ob, bb, fb⟩; have c31 : w1.cell? ⟨x.ch, 3, none⟩ = some (.slice O C.owed.length cap) := (hbk.below bb hbk.lt).cell 3; have HOw := Lib.hid ((o1d.below bb).below ((Below.refl w1.heap.size w1).alloc (Nat.le_refl _) (.cells #[.slice Ab b.length cb] 36))); have HSg := Lib.hid (Seg.newAt w1 36 [.slice Ab b.length cb] w1.heap.size rfl); have bk2 := (hbk.below bb hbk.lt).alloc (.cells #[.slice Ab b.length cb] 36); have c32 : (w1.alloc (.cells #[.slice Ab b.length cb] 36)).cell? ⟨x.ch, 3, none⟩ = some (.slice O C.owed.length cap) := bk2.cell 3)))
  all_goals
    have bk3 := hup.blk bk2 hnf
    have hW : ∃ W, W = w2.setCell ⟨x.ch, 3, none⟩ (.slice A2 (C.owed.length + 1) cap2) := ⟨_, rfl⟩
    have b3 := bk3.setTo 3 (.slice A2 (C.owed.length + 1) cap2) #[.pointer (some ⟨x.sn, 0, none⟩), .int .i64 C.conn, .pointer (some ⟨x.tk, 0, none⟩), .slice A2 (C.owed.length + 1) cap2] (by simp)
    have u1 : Upd (x.ch :: fp O cap) w (w1.alloc (.cells #[.slice Ab b.length cb] 36)) := (((Upd.refl (x.ch :: fp O cap) w).drew).below bb).alloc _
    have u2 := (u1.trans hup (by intro k hk; exact .inl (by simp [hk]))).setCell (p := ⟨x.ch, 3, none⟩) (.inl (by simp)) (.slice A2 (C.owed.length + 1) cap2)
    have k1 : ∀ T, 36 ≠ T → Keep T w w2 := fun T hT => (((Keep.refl T w).drew.trans (Keep.of_below bb)).alloc _).trans (HOw.out.keep_ne hup hT)
    have k2 := (k1 5 (by decide)).setCell bk3 (by decide) 3 (.slice A2 (C.owed.length + 1) cap2)
    have hb2 : IsB (w2.setCell ⟨x.ch, 3, none⟩ (.slice A2 (C.owed.length + 1) cap2)) (.slice Ab b.length cb) b :=
      (IsB.own ob hb).keep ((((Keep.refl 5 w1).alloc _).trans (HOw.out.keep_ne hup (by decide))).setCell bk3 (by decide) 3 _)
    have hw2 : OwnS (w2.setCell ⟨x.ch, 3, none⟩ (.slice A2 (C.owed.length + 1) cap2)) 36 1 A2 (C.owed.length + 1) cap2 (vs ++ [.slice Ab b.length cb]) := hown.keep ((Keep.refl _ w2).setCell bk3 (by decide) 3 _)
    generalize (w2.setCell ⟨x.ch, 3, none⟩ (.slice A2 (C.owed.length + 1) cap2)) = W at b3 u2 k2 hb2 hw2 ⊢
    have ic := h.owe b3 u2 k2 o1 o2 hw2 hb2
    obtain ⟨C2, hC2⟩ : ∃ C2 : Mp.Channel, C2 = { C with owed := C.owed ++ [b] } := ⟨_, rfl⟩
    have hpe := push_eq (now := now) (b := b) ho hl
    rw [← hC2] at ic hpe
    have mc : MayC C2 := by rw [hC2]; exact ⟨hm.snd, by simp; omega⟩
    have HP := Lib.hid (chanPays ic mc (by rw [hC2]; exact ho) (by rw [hC2]; simp; omega) now h0 hn)
    have HE := Lib.hid hpe
    have hws := u2.size
    have hsz : w.heap.size ≤ (w1.alloc (.cells #[.slice Ab b.length cb] 36)).heap.size := u1.size
    clear hpe hC2 hW
    go_wp2_with (go_at_call 64; (with_reducible refine HP.out.mono ?_); rintro e w5 ⟨A', c', cs, O', cap', rfl, p1, p2, p3, p4, p5, p6, p7, p8⟩)
    go_ret2
    rw [HE.out]
    refine ⟨A', c', rfl, cs, O', cap', p1, p2, fun k hk => Nat.le_trans hws (p3 k hk), p4, fun k hk => ?_, ?_, k2.trans p7, p8⟩
    · rcases hfp k (p5 k hk) with h1 | h1
      · exact .inl h1
      · exact .inr (Nat.le_trans hsz h1)
    · exact (u2.mono (by intro k hk _; simp at hk ⊢; rcases hk with rfl | hk; exact .inl rfl; exact .inr (.inr (.inr (.inr hk))))).trans p6 (by intro k hk; refine .inl ?_; simp at hk ⊢; rcases hk with rfl | rfl | rfl | rfl <;> simp)
end Go.Proofs.Ytemcpldipjbleaa
