/- driver.datagrams. -/
import Derived.Test.YtemcpldipjbleaaPush
namespace Go.Proofs.Ytemcpldipjbleaa
open Go.RowKit
attribute [local go_sem ↓] Go.wp_at_zero Go.wp_at_succ

theorem GramsAt.get {w : World} : ∀ {gs : List Mp.Gram} {cs : List Value}, GramsAt w gs cs → ∀ {k : Nat} (hk : k < gs.length), ∃ v, IsB w v gs[k].body ∧
    cs[k * 6]? = some (.int .i64 gs[k].conn) ∧ cs[k * 6 + 1]? = some (.int .i64 gs[k].kind) ∧ cs[k * 6 + 2]? = some (.int .i64 gs[k].seq) ∧ cs[k * 6 + 3]? = some (.int .i64 gs[k].ack) ∧ cs[k * 6 + 4]? = some (.int .i64 gs[k].code) ∧ cs[k * 6 + 5]? = some v
  | [], _, _, k, hk => absurd hk (by simp)
  | g :: gs, _, ⟨v, rest, h1, h2, h3⟩, 0, _ => ⟨v, h1, by subst h2; exact ⟨rfl, rfl, rfl, rfl, rfl, rfl⟩⟩
  | g :: gs, _, ⟨v, rest, h1, h2, h3⟩, k + 1, hk => by
    obtain ⟨u, a0, a1, a2, a3, a4, a5, a6⟩ := GramsAt.get h3 (k := k) (by simpa using hk)
    have e : ∀ j, ([Value.int .i64 g.conn, .int .i64 g.kind, .int .i64 g.seq, .int .i64 g.ack, .int .i64 g.code, v] ++ rest)[(k + 1) * 6 + j]? = rest[k * 6 + j]? := fun j => by
      rw [List.getElem?_append_right (by simp; omega)]
      congr 1
      simp; omega
    subst h2
    exact ⟨u, a0, (e 0).trans a1, (e 1).trans a2, (e 2).trans a3, (e 3).trans a4, (e 4).trans a5, (e 5).trans a6⟩

theorem RetB.isB {w w' : World} {r : Option Mp.Bytes} {A : Option Addr} {n c : Nat} {k : Int} (h : RetB w r (.returned (.tuple #[.slice A n c, .int .i64 k])) w') (hl : ∀ l, r = some l → l.length ≤ 35184372088832) : IsB w' (.slice A n c) (r.getD []) := by
  obtain ⟨_, h2⟩ := h
  cases r with
  | none =>
    injection h2 with h2
    simp at h2
    obtain ⟨⟨rfl, rfl, rfl⟩, _⟩ := h2
    exact ⟨by simp, none, 0, rfl, by simp, Seg.nil _ _ _⟩
  | some l =>
    obtain ⟨A', c', h2, ho, _⟩ := h2
    injection h2 with h2
    simp at h2
    obtain ⟨⟨rfl, rfl, rfl⟩, _⟩ := h2
    exact IsB.own ho (hl l rfl)

def encs (gs : List Mp.Gram) : List Mp.Bytes := gs.map fun g => (Mp.gramEnc g).getD []

set_option maxRecDepth 100000 in
set_option maxHeartbeats 1000000 in
theorem drvDatagrams {w : World} (A : Option Addr) (gs : List Mp.Gram) (c : Nat) (cs : List Value) (hs : Seg w 38 A cs) (hg : GramsAt w gs cs) (hl : gs.length ≤ 2000) :
    Calls Try.prog 41 #[.slice A gs.length c] w fun e w' => ∃ A' c' vs, e = .returned (.slice A' gs.length c') ∧ OwnS w' 36 1 A' gs.length c' vs ∧ IsBs w' vs (encs gs) ∧ (∀ k, k ∈ fp A' c' → w.heap.size ≤ k) ∧ Below w.heap.size w w' := by
  obtain ⟨i0, hi, hz0, hz1, hz2⟩ := info_parts binfo
  go_enter Try.func41, Try.ntmps41
  go_wp2
  go_loopw [2, 9] (fun v i wr => ∃ (k : Nat) (Ao : Option Addr) (co : Nat) (vs : List Value), k ≤ gs.length ∧ i = .int .i64 k ∧ v = .slice Ao k co ∧ OwnS wr 36 1 Ao k co vs ∧ IsBs wr vs (encs (gs.take k)) ∧ (∀ j, j ∈ fp Ao co → w.heap.size ≤ j) ∧ Below w.heap.size w wr) (fun _ i _ => gs.length - (intOf i).toNat)
  case atStart => exact ⟨0, none, 0, [], Nat.zero_le _, rfl, rfl, OwnS.nil _ _ _ _, by simp [encs, IsBs], by simp [fp], Below.refl _ _⟩
  case round =>
    obtain ⟨k, Ao, co, vs, hk, rfl, rfl, q1, q2, q3, q4⟩ := hrel
    by_cases hlt : k < gs.length
    · obtain ⟨v, hv, a1, a2, a3, a4, a5, a6⟩ := hg.get hlt
      obtain ⟨b0, o, rfl, hb0, hcell⟩ := (hs.below q4).cells (by
        have := hg.length; omega)
      obtain ⟨G, hG⟩ : ∃ G, G = gs[k] := ⟨_, rfl⟩
      rw [← hG] at a1 a2 a3 a4 a5 hv
      have x0 := hcell _ _ a1
      have x1 := hcell _ _ a2
      have x2 := hcell _ _ a3
      have x3 := hcell _ _ a4
      have x4 := hcell _ _ a5
      have x5 := hcell _ _ a6
      clear hcell a1 a2 a3 a4 a5 a6
      simp only [← Nat.add_assoc] at x1 x2 x3 x4 x5
      obtain ⟨hbl, Ab, cb, rfl, hcb, hsb⟩ := hv
      have HG := Lib.hid hG
      clear hG
      have hAl := (Below.refl wr.heap.size wr).alloc (Nat.le_refl _) (.cells #[.int .i64 G.conn, .int .i64 G.kind, .int .i64 G.seq, .int .i64 G.ack, .int .i64 G.code, .slice Ab G.body.length cb] 38)
      have HE := Lib.hid (gramEncode G Ab cb _ ((hsb.keep (Keep.of_below q4)).below hAl) hbl)
      have hzw := q4.size
      simp only [gv] at HE
      go_wp2_with fail
      (with_reducible refine HE.out.mono ?_)
      rintro e w1 h1
      obtain ⟨A5, n5, c5, k5, rfl, h6⟩ := h1.form
      have hB := h6.isB (fun l hl => by have := gramEnc_length hl; omega)
      have hb1 := h6.1
      have b4 : Below w.heap.size w w1 := (q4.alloc hzw _).trans (hb1.mono (by simp; omega))
      have hb1' : Below wr.heap.size wr w1 := hAl.trans (hb1.mono (by simp))
      have hA2 := (Below.refl w1.heap.size w1).alloc (Nat.le_refl _) (.cells #[.slice A5 n5 c5] 36)
      have HOw := Lib.hid ((q1.below hb1').below hA2)
      have HSg := Lib.hid (Seg.newAt w1 36 [.slice A5 n5 c5] w1.heap.size rfl)
      have H63 := Lib.hid (show k + 1 ≤ maxLen from le_maxLen (by omega))
      have H48 := Lib.hid (show (k + 1) * 24 ≤ 140737488355328 by omega)
      have q2' := (q2.keep (Keep.of_below hb1')).keep (Keep.of_below hA2)
      have hB' := hB.keep (Keep.of_below hA2)
      have hz1w := b4.size
      have ht : encs (gs.take (k + 1)) = encs (gs.take k) ++ [(Mp.gramEnc G).getD []] := by rw [List.take_succ_eq_append_getElem hlt, HG.out]; unfold encs; rw [List.map_append]; rfl
      have HT := Lib.hid ht
      clear ht h1 h6 hB hAl hb1 q1 q2 x0 x1 x2 x3 x4 x5 HE
      go_wp2_with (at_builtin; go_loud (refine wpList_append_s _ rfl _ _ _ rfl 36 36 i0 (.slice none 0 0) 1 24 Try.underlying32 hi hz0 hz1 hz2 rfl Ao k co vs rfl HOw.out (some ⟨w1.heap.size, 0, none⟩) 1 1 [.slice A5 n5 c5] rfl rfl HSg.out (by simp [Value.oneCell']) H63.out H48.out ?_; intro A' cap2 w5 hown hup hfp))
      have k5 := HOw.out.keep_ne hup (T := 5) (by decide)
      refine ⟨⟨k + 1, A', cap2, _, by omega, by go_num, rfl, hown, ?_, ?_, ?_⟩, by simp [intOf]; omega⟩
      · rw [HT.out]; exact (q2'.keep k5).snoc (hB'.keep k5)
      · intro j hj
        rcases hfp j hj with h1 | h1
        · exact q3 j h1
        · simp at h1; omega
      · exact (b4.alloc hz1w _).trans (upd_below hup q3 (by simp; omega))
    · have hk2 : k = gs.length := by omega
      subst hk2
      rw [List.take_length] at q2
      go_wp2
      go_ret
      exact ⟨Ao, co, vs, rfl, q1, q2, q3, q4⟩
end Go.Proofs.Ytemcpldipjbleaa
