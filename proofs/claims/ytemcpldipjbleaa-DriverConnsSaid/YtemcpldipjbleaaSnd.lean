/- sender.Send, Body. -/
import Derived.Test.YtemcpldipjbleaaTim
namespace Go.Proofs.Ytemcpldipjbleaa
open Go.RowKit

/-- a slice of bytes that one reads -/
def IsB (w : World) (v : Value) (b : Mp.Bytes) : Prop := b.length ≤ 35184372088832 ∧ ∃ A c, v = .slice A b.length c ∧ b.length ≤ c ∧ Seg w 5 A (bv b)
theorem IsB.keep {w w' : World} {v : Value} {b : Mp.Bytes} (h : IsB w v b) (hk : Keep 5 w w') : IsB w' v b := by
  obtain ⟨h1, A, c, h2, h3, h4⟩ := h
  exact ⟨h1, A, c, h2, h3, h4.keep hk⟩
theorem IsB.own {w : World} {A : Option Addr} {c : Nat} {b : Mp.Bytes} (h : OwnS w 5 1 A b.length c (bv b)) (hb : b.length ≤ 35184372088832) : IsB w (.slice A b.length c) b := ⟨hb, A, c, rfl, h.le, h.seg⟩
/-- rows of bytes -/
def IsBs (w : World) : List Value → List Mp.Bytes → Prop
  | [], [] => True
  | v :: vs, b :: bs => IsB w v b ∧ IsBs w vs bs
  | _, _ => False
theorem IsBs.keep {w w' : World} (hk : Keep 5 w w') : ∀ {vs : List Value} {bs : List Mp.Bytes}, IsBs w vs bs → IsBs w' vs bs
  | [], [], _ => trivial
  | _ :: _, _ :: _, h => ⟨h.1.keep hk, IsBs.keep hk h.2⟩
theorem IsBs.length {w : World} : ∀ {vs : List Value} {bs : List Mp.Bytes}, IsBs w vs bs → vs.length = bs.length
  | [], [], _ => rfl
  | _ :: _, _ :: _, h => by simp [h.2.length]
theorem IsBs.snoc {w : World} {v : Value} {b : Mp.Bytes} (hv : IsB w v b) : ∀ {vs : List Value} {bs : List Mp.Bytes}, IsBs w vs bs → IsBs w (vs ++ [v]) (bs ++ [b])
  | [], [], _ => ⟨hv, trivial⟩
  | _ :: _, _ :: _, h => ⟨h.1, IsBs.snoc hv h.2⟩
/-- bodies by number, as a map's entries -/
def Bodies (w : World) : List (Int × Value) → List (Int × Mp.Bytes) → Prop
  | [], [] => True
  | e :: es, p :: l => e.1 = p.1 ∧ IsB w e.2 p.2 ∧ Bodies w es l
  | _, _ => False
theorem Bodies.keep {w w' : World} (hk : Keep 5 w w') : ∀ {es : List (Int × Value)} {l : List (Int × Mp.Bytes)}, Bodies w es l → Bodies w' es l
  | [], [], _ => trivial
  | _ :: _, _ :: _, h => ⟨h.1, h.2.1.keep hk, Bodies.keep hk h.2.2⟩
theorem Bodies.length {w : World} : ∀ {es : List (Int × Value)} {l : List (Int × Mp.Bytes)}, Bodies w es l → es.length = l.length
  | [], [], _ => rfl
  | _ :: _, _ :: _, h => by simp [h.2.2.length]
theorem Bodies.fst {w : World} : ∀ {es : List (Int × Value)} {l : List (Int × Mp.Bytes)}, Bodies w es l → es.map Prod.fst = l.map Prod.fst
  | [], [], _ => rfl
  | _ :: _, _ :: _, h => by simp [h.1, h.2.2.fst]
theorem Bodies.snoc {w : World} {n : Int} {v : Value} {b : Mp.Bytes} (hv : IsB w v b) : ∀ {es : List (Int × Value)} {l : List (Int × Mp.Bytes)}, Bodies w es l → Bodies w (es ++ [(n, v)]) (l ++ [(n, b)])
  | [], [], _ => ⟨rfl, hv, trivial⟩
  | _ :: _, _ :: _, h => ⟨h.1, h.2.1, Bodies.snoc hv h.2.2⟩
theorem Bodies.look {w : World} (n : Int) : ∀ {es : List (Int × Value)} {l : List (Int × Mp.Bytes)}, Bodies w es l → (lookI es n = none ∧ Mp.look l n = none) ∨ ∃ v b, lookI es n = some v ∧ Mp.look l n = some b ∧ IsB w v b
  | [], [], _ => .inl ⟨rfl, rfl⟩
  | e :: es, p :: l, h => by
    obtain ⟨h1, h2, h3⟩ := h
    by_cases he : e.1 = n
    · refine .inr ⟨e.2, p.2, ?_, ?_, h2⟩
      · rw [lookI_cons, if_pos he]
      · rw [h1] at he; simp [Mp.look, he]
    · rw [lookI_cons, if_neg he]
      rw [h1] at he
      rw [show Mp.look (p :: l) n = Mp.look l n by simp [Mp.look, he]]
      exact Bodies.look n h3

/-- block g is a sender, ti its timer, tm the timer's map, sm its own -/
structure IsS (w : World) (g ti tm sm : Nat) (S : Mp.Sender) : Prop where
  blk : Blk w g 128 #[.pointer (some ⟨ti, 0, none⟩), .int .i64 S.window, .int .i64 S.next, .map (some sm), .bool S.over]
  tim : IsT w ti tm S.t
  map : ∃ es, MapI w sm es ∧ Bodies w es S.l
  ne : tm ≠ sm
/-- a sender's numbers may be -/
structure MayS (S : Mp.Sender) : Prop where
  tim : MayT S.t
  w1 : 1 ≤ S.window
  w2 : S.window ≤ 16
  n0 : 0 ≤ S.next
  n1 : S.next ≤ 1099511627776
  len : S.l.length ≤ 16
  key : ∀ x ∈ S.l, x.1 < S.next
  tkey : ∀ x ∈ S.t.l, x.id < S.next

theorem IsS.upd {w w' : World} {g ti tm sm : Nat} {S : Mp.Sender} {F : List Nat} (h : IsS w g ti tm sm S) (hu : Upd F w w') (hk : Keep 5 w w') (h1 : g ∉ F) (h2 : ti ∉ F) (h3 : tm ∉ F) (h4 : sm ∉ F) : IsS w' g ti tm sm S := by
  obtain ⟨es, m1, m2⟩ := h.map
  exact ⟨hu.blk h.blk h1, h.tim.upd hu h2 h3, ⟨es, m1.upd hu h4, m2.keep hk⟩, h.ne⟩

set_option maxRecDepth 100000 in
set_option maxHeartbeats 400000 in
theorem senderSend {w : World} {g ti tm sm : Nat} {S : Mp.Sender} (h : IsS w g ti tm sm S) (hm : MayS S) (now : Int) (h0 : 0 ≤ now) (hn : now ≤ 1099511627776) (A : Option Addr) (b : Mp.Bytes) (c : Nat) (hs : Seg w 5 A (bv b)) (hb : b.length ≤ 35184372088832)
    (ho : S.over = false) (hr : 0 < S.room) :
    Calls Try.prog 78 #[.pointer (some ⟨g, 0, none⟩), .int .i64 now, .slice A b.length c] w fun e w' => e = .returned (.tuple #[.int .i64 S.next, .int .i64 0]) ∧ IsS w' g ti tm sm (S.send now b) ∧ Upd [g, tm, sm] w w' ∧ Keep 5 w w' := by
  obtain ⟨es, m1, m2⟩ := h.map
  have hbk := h.blk
  rw [ho] at hbk
  have HO := Lib.hid (senderOver hbk)
  have hlen := m2.length
  have hsl := hm.len
  have HRm := Lib.hid (senderRoom hbk m1 hm.w1 hm.w2 (by omega))
  obtain ⟨next, hnx⟩ : ∃ n, n = S.next := ⟨_, rfl⟩
  have hn0 := hm.n0
  have hn1 := hm.n1
  rw [← hnx] at hn0 hn1
  have hrm : S.window - (es.length : Int) ≠ 0 := by
    unfold Mp.Sender.room at hr; rw [ho] at hr; simp at hr; omega
  have hrb : ((S.window - (es.length : Int)) == 0) = false := by simpa using hrm
  have c2 : ∀ n, (w.drewN n).cell? ⟨g, 2, none⟩ = some (.int .i64 S.next) := fun n => hbk.cell 2
  have f2 : ∀ n, (w.drewN n).frozen? ⟨g, 2, none⟩ = false := fun n => hbk.frozen 2
  have hwr : wrap64 (S.next + 1) = S.next + 1 := IntWalk.wrap64_in _ ⟨by omega, by omega⟩
  go_enter Try.func78, Try.ntmps78
  go_wp2_with (first
    | (go_at_call 75; (with_reducible refine HO.out.mono ?_); rintro e w1 ⟨rfl, rfl⟩)
    | (go_at_call 77; (with_reducible refine HRm.out.mono ?_); rintro e w1 ⟨rfl, nn, rfl⟩))
  have bW := (hbk.drewN nn).set_ 2 (.int .i64 (S.next + 1))
  have uW : Upd [g] w ((w.drewN nn).setCell ⟨g, 2, none⟩ (.int .i64 (S.next + 1))) := ((Upd.refl [g] w).drewN nn).setCell (.inl (by simp)) _
  have kW : Keep 5 w ((w.drewN nn).setCell ⟨g, 2, none⟩ (.int .i64 (S.next + 1))) := ((Keep.refl 5 w).drewN nn).setCell (hbk.drewN nn) (by decide) 2 _
  generalize ((w.drewN nn).setCell ⟨g, 2, none⟩ (.int .i64 (S.next + 1))) = W at bW uW kW ⊢
  have hgm := h.tim.map.ne_blk hbk
  have hgs := m1.ne_blk hbk
  have hgt := h.tim.blk.ne_ hbk (by decide)
  have tW := (h.tim.upd uW (by simpa using hgt) (by simpa using hgm)).drew
  have mW := (m1.upd uW (by simpa using hgs)).drew
  have sW := (hs.keep kW).drew
  have vW := m2.keep (kW.drew)
  have uW' := uW.drew
  have bW' := bW.drew
  simp at bW'
  have c3 : W.drew.cell? ⟨g, 3, none⟩ = some (.map (some sm)) := bW'.cell 3
  clear bW uW HO HRm c2 f2
  have HC := Lib.hid (cloneB A b.length c (bv b) W.drew (bv_length b) sW (bv_one b) (by omega))
  have hnot : S.next ∉ es.map Prod.fst := by
    rw [m2.fst]; intro hx
    obtain ⟨x, hx1, hx2⟩ := List.mem_map.1 hx
    have := hm.key x hx1; omega
  go_region_with (go_at_call 69; (with_reducible refine HC.out.mono ?_); rintro e w1 ⟨A', c', rfl, ho1, hb1, hf1⟩; have c3' : w1.cell? ⟨g, 3, none⟩ = some (.map (some sm)) := (bW'.below hb1 bW'.lt).cell 3; obtain ⟨w2, hr2, hm2, hu2⟩ := (mW.below hb1).add (P := Try.prog) Try.underlying126 Try.underlying3 S.next hnot (.slice A' b.length c'))
  all_goals
    have hsl2 := bW'.lt
    have htl := tW.map.lt
    have hml := mW.lt
    have hil := tW.blk.lt
    have b2 := hu2.blk (bW'.below hb1 bW'.lt) (by simpa using Ne.symm hgs)
    have hts := h.ne
    have hti : ti ≠ sm := Ne.symm (m1.ne_blk h.tim.blk)
    have t2 : IsT w2 ti tm S.t := (tW.upd (Upd.of_below hb1 []) (by simp) (by simp)).upd hu2 (by simpa using hti) (by simpa using hts)
    have k2 : Keep 5 w1 w2 := Keep.of_upd hu2 (fun k hk => by simp at hk; subst hk; exact (mW.below hb1).not 5)
    have v2 := (vW.keep (Keep.of_below hb1)).keep k2
    have c0 : w2.cell? ⟨g, 0, none⟩ = some (.pointer (some ⟨ti, 0, none⟩)) := b2.cell 0
    have HT := Lib.hid (timerStart t2 hm.tim S.next now h0 hn (by intro hx; obtain ⟨x, hx1, hx2⟩ := List.mem_map.1 hx; have := hm.tkey x hx1; omega))
    clear hr2
    go_wp2_with (go_at_call 81; (with_reducible refine HT.out.mono ?_); rintro e w3 ⟨rfl, t3, hu3⟩)
    go_ret2
    have hmt := t2.map.not 5
    refine ⟨rfl, ⟨?_, t3, ⟨_, hm2.upd hu3 (by simpa using Ne.symm hts), ?_⟩, hts⟩, ?_, ?_⟩
    · have := hu3.blk b2 (by simpa using Ne.symm hgm)
      rw [show (S.send now b).over = false from ho]
      exact this
    · exact (v2.snoc (IsB.own (ho1.keep k2) hb)).keep (Keep.of_upd hu3 (fun k hk => by simp at hk; subst hk; exact hmt))
    · exact (((uW'.mono (by simp)).below hb1).trans hu2 (by simp)).trans hu3 (by simp)
    · exact (((kW.drew).trans (Keep.of_below hb1)).trans k2).trans (Keep.of_upd hu3 (fun k hk => by simp at hk; subst hk; exact hmt))
end Go.Proofs.Ytemcpldipjbleaa
