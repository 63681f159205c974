/- driver.push, New, Start, and what tells of a driver. -/
import Derived.Test.YtemcpldipjbleaaDrv1
import Derived.Test.YtemcpldipjbleaaEnc
namespace Go.Proofs.Ytemcpldipjbleaa
open Go.RowKit

/-- rows of bytes are handed back, and the channel has turned -/
def Sent (w : World) (x : Chs) (O : Option Addr) (cap : Nat) (rows : List Mp.Bytes) (C2 : Mp.Channel) (A : Option Addr) (c : Nat) (w' : World) : Prop :=
  ∃ vs O' cap', OwnS w' 36 1 A rows.length c vs ∧ IsBs w' vs rows ∧ (∀ k, k ∈ fp A c → w.heap.size ≤ k ∧ k ∉ fp O' cap') ∧ IsC w' x O' cap' C2 ∧ (∀ k, k ∈ fp O' cap' → k ∈ fp O cap ∨ w.heap.size ≤ k) ∧
    Upd ([x.ch, x.sn, x.tm, x.sm] ++ fp O cap) w w' ∧ Keep 5 w w' ∧ MayC C2

theorem paysK_len : ∀ (k : Nat) (C : Mp.Channel) (now : Int), (Mp.Channel.paysK k C now).1.length ≤ k
  | 0, _, _ => by simp [Mp.Channel.paysK]
  | k + 1, C, now => by
    unfold Mp.Channel.paysK
    split
    · simp
    · split
      · simp
      · simp only [List.length_cons]
        exact Nat.succ_le_succ (paysK_len k _ now)

theorem msgEnc_length {m : Mp.Msg} {l : Mp.Bytes} (h : Mp.msgEnc m = some l) : l.length ≤ 40 + m.edges.length * 7 := by
  have := msgW_length m
  unfold Mp.msgEnc at h
  simp only at h
  split at h
  · cases h; exact this
  · cases h

set_option maxRecDepth 100000 in
set_option maxHeartbeats 1000000 in
theorem drvPush {w : World} {d : Nat} {x : Chs} {O : Option Addr} {cap : Nat} {C : Mp.Channel} (hd : w.cell? ⟨d, 6, none⟩ = some (.pointer (some ⟨x.ch, 0, none⟩))) (hdl : d < w.heap.size) (h : IsC w x O cap C) (hm : MayC C) (ho : C.s.over = false) (hl : C.owed.length < 64) (hnx : C.s.next + C.owed.length < 1099511627776)
    (now : Int) (h0 : 0 ≤ now) (hn : now ≤ 1099511627776) (kind pos dest : Int) (l : Mp.Bytes) (hW : Writes ⟨kind, pos, dest, [], 0, .zero⟩) (hme : Mp.msgEnc ⟨kind, pos, dest, [], 0, .zero⟩ = some l) :
    Calls Try.prog 29 #[.pointer (some ⟨d, 0, none⟩), .int .i64 now, .agg #[.int .i64 kind, .int .i64 pos, .int .i64 dest, .slice none 0 0, .int .i64 0, .int .i64 0, .int .i64 0, .int .i64 0, .int .i64 0]] w
      fun e w' => ∃ A c, e = .returned (.tuple #[.slice A (encs (C.push now l).1).length c, .int .i64 0]) ∧ Sent w x O cap (encs (C.push now l).1) (C.push now l).2.2 A c w' := by
  have HE := Lib.hid (msgEncode ⟨kind, pos, dest, [], 0, .zero⟩ hW none 0 (w.alloc (.cells #[.int .i64 kind, .int .i64 pos, .int .i64 dest, .slice none 0 0, .int .i64 0, .int .i64 0, .int .i64 0, .int .i64 0, .int .i64 0] 44)) (Seg.nil _ _ _) (by simp))
  rw [hme] at HE
  have hll := msgEnc_length hme
  simp only [List.length_nil] at hll
  have hAl := (Below.refl w.heap.size w).alloc (Nat.le_refl _) (.cells #[.int .i64 kind, .int .i64 pos, .int .i64 dest, .slice none 0 0, .int .i64 0, .int .i64 0, .int .i64 0, .int .i64 0, .int .i64 0] 44)
  obtain ⟨j0, j1, j2, j3, j4, j5, j6, j7, j8⟩ := cells9 (Blk.newAt w 44 #[.int .i64 kind, .int .i64 pos, .int .i64 dest, .slice none 0 0, .int .i64 0, .int .i64 0, .int .i64 0, .int .i64 0, .int .i64 0] _ rfl)
  simp only [mv, Mp.Hint.zero, List.length_nil] at HE
  go_enter Try.func29, Try.ntmps29
  go_wp2_with fail
  (with_reducible refine HE.out.mono ?_)
  rintro e w1 ⟨b1, A1, c1, rfl, o1, f1⟩
  have B1 : Below w.heap.size w w1 := hAl.trans (b1.mono (by simp))
  have hd1 : w1.cell? ⟨d, 6, none⟩ = some (.pointer (some ⟨x.ch, 0, none⟩)) := (B1.cell hdl).trans hd
  have HP := Lib.hid (chanPush (h.below B1) hm ho hl hnx now h0 hn A1 l c1 (by omega) o1.seg)
  go_wp2_with fail
  (with_reducible refine HP.out.mono ?_)
  rintro e w2 ⟨A2, c2, rfl, cs, O2, cap2, p1, p2, p3, p4, p5, p6, p7, p8⟩
  have hgl : (C.push now l).1.length ≤ 2000 := by
    rw [push_eq ho hl]
    have := paysK_len (C.owed ++ [l]).length { C with owed := C.owed ++ [l] } now
    rw [List.length_append, List.length_singleton] at this
    simp only [Mp.Channel.pays, List.length_append, List.length_singleton]
    omega
  have HD := Lib.hid (drvDatagrams A2 (C.push now l).1 c2 cs p1.seg p2 hgl)
  go_wp2_with fail
  (with_reducible refine HD.out.mono ?_)
  rintro e w3 ⟨A3, c3, vs, rfl, r1, r2, r3, r4⟩
  have hz1 := B1.size
  have hz2 := p6.size
  obtain ⟨_, oww, _⟩ := p4.owd
  have hlt := oww.fp_lt
  go_wp2
  go_ret2
  have hel : (encs (C.push now l).1).length = (C.push now l).1.length := by simp [encs]
  rw [hel]
  refine ⟨A3, c3, rfl, vs, O2, cap2, by rw [hel]; exact r1, r2, fun k hk => ⟨by have := r3 k hk; omega, fun hk2 => by have := r3 k hk; have := hlt k hk2; omega⟩, p4.below r4, fun k hk => ?_, ?_, ?_, p8⟩
  · rcases p5 k hk with h1 | h1
    · exact .inl h1
    · exact .inr (by omega)
  · exact ((Upd.of_below B1 _).trans p6 (fun k hk => .inl hk)).below r4
  · exact ((Keep.of_below B1).trans p7).trans (Keep.of_below r4)
end Go.Proofs.Ytemcpldipjbleaa
