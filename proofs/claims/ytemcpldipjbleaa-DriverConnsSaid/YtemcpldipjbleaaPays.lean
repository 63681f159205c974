/- channel.pays. -/
import Derived.Test.YtemcpldipjbleaaChanD
import Derived.StillTailTactics
namespace Go.Proofs.Ytemcpldipjbleaa
open Go.RowKit
attribute [local go_sem ↓] Go.wp_at_zero Go.wp_at_succ

theorem ginfo : (Try.prog.info? 38).map (fun i => (i.zero, i.size, i.bytes)) = some (some (.agg #[.int .i64 0, .int .i64 0, .int .i64 0, .int .i64 0, .int .i64 0, .slice none 0 0]), 6, 64) := by kernel_rfl

/-- datagrams, as cells -/
def GramsAt (w : World) : List Mp.Gram → List Value → Prop
  | [], cs => cs = []
  | g :: gs, cs => ∃ v rest, IsB w v g.body ∧ cs = [.int .i64 g.conn, .int .i64 g.kind, .int .i64 g.seq, .int .i64 g.ack, .int .i64 g.code, v] ++ rest ∧ GramsAt w gs rest
theorem GramsAt.keep {w w' : World} (hk : Keep 5 w w') : ∀ {gs : List Mp.Gram} {cs : List Value}, GramsAt w gs cs → GramsAt w' gs cs
  | [], _, h => h
  | _ :: _, _, ⟨v, rest, h1, h2, h3⟩ => ⟨v, rest, h1.keep hk, h2, GramsAt.keep hk h3⟩
theorem GramsAt.snoc {w : World} {g : Mp.Gram} {v : Value} (hv : IsB w v g.body) : ∀ {gs : List Mp.Gram} {cs : List Value}, GramsAt w gs cs → GramsAt w (gs ++ [g]) (cs ++ [.int .i64 g.conn, .int .i64 g.kind, .int .i64 g.seq, .int .i64 g.ack, .int .i64 g.code, v])
  | [], cs, h => by
    have h : cs = [] := h
    subst h
    exact ⟨v, [], hv, rfl, rfl⟩
  | _ :: _, _, ⟨u, rest, h1, h2, h3⟩ => ⟨u, rest ++ [.int .i64 g.conn, .int .i64 g.kind, .int .i64 g.seq, .int .i64 g.ack, .int .i64 g.code, v], h1, by rw [h2, List.append_assoc], GramsAt.snoc hv h3⟩
theorem GramsAt.length {w : World} : ∀ {gs : List Mp.Gram} {cs : List Value}, GramsAt w gs cs → cs.length = gs.length * 6
  | [], cs, h => by have h : cs = [] := h; subst h; rfl
  | _ :: gs, _, ⟨u, rest, h1, h2, h3⟩ => by rw [h2, List.length_append, GramsAt.length h3]; simp; omega

/-- a channel's numbers may be -/
structure MayC (C : Mp.Channel) : Prop where
  snd : MayS C.s
  nx : C.s.next + C.owed.length ≤ 1099511627776

theorem MayS.send {S : Mp.Sender} (h : MayS S) (hn : S.next < 1099511627776) (ho : S.over = false) (hr : 0 < S.room) (now : Int) (b : Mp.Bytes) : MayS (S.send now b) := by
  refine ⟨⟨h.tim.b1, h.tim.b2, h.tim.m1, h.tim.m2, h.tim.t0, h.tim.t1⟩, h.w1, h.w2, ?_, ?_, ?_, ?_, ?_⟩
  · have := h.n0; simp only [Mp.Sender.send]; omega
  · simp only [Mp.Sender.send]; omega
  · have h1 := h.w2
    unfold Mp.Sender.room at hr
    rw [ho] at hr
    simp at hr
    simp only [Mp.Sender.send, List.length_append, List.length_cons, List.length_nil]; omega
  · intro x hx
    simp only [Mp.Sender.send, List.mem_append, List.mem_singleton] at hx ⊢
    rcases hx with hx | rfl
    · have := h.key x hx; omega
    · simp only; omega
  · intro x hx
    simp only [Mp.Sender.send, Mp.Timer.start, List.mem_append, List.mem_singleton] at hx ⊢
    rcases hx with hx | rfl
    · have := h.tkey x hx; omega
    · simp only; omega

/-- the rest of an owned slice is owned -/
theorem OwnS.tail {w : World} {e : TypeId} {A : Option Addr} {n cap : Nat} {x : Value} {xs : List Value} (h : OwnS w e 1 A (n + 1) cap (x :: xs)) :
    OwnS w e 1 (if cap = 1 then A else A.map (·.add (1 * 1))) n (cap - 1) xs ∧ ∀ k, k ∈ fp (if cap = 1 then A else A.map (·.add (1 * 1))) (cap - 1) → k ∈ fp A cap := by
  have hl := h.len
  have hle := h.le
  have hcm := h.cap_le
  obtain ⟨g, o, cur, rfl, hg, hs, hx⟩ := h.row (by omega)
  refine ⟨⟨by simp at hl ⊢; omega, by omega, by omega, fun hc => ?_⟩, ?_⟩
  · rw [if_neg (by omega)]
    refine ⟨g, o + 1, cur, by simp [Addr.add_lit], hg, by omega, fun j u hu => ?_⟩
    rw [Nat.add_assoc, Nat.add_comm 1 j]
    exact hx (j + 1) u (by simpa using hu)
  · intro k hk
    unfold fp at hk ⊢
    split at hk
    · cases hk
    · rw [if_neg (by omega)] at hk
      rw [if_neg (by omega)]
      simpa [Addr.add_lit] using hk

/-- how many are owed, as the channel's cell tells -/
def owedLen (w : World) (ch : Nat) : Nat := match w.cell? ⟨ch, 3, none⟩ with | some (.slice _ n _) => n | _ => 0

/-- while datagrams are paid: those that were, and the channel as it stands -/
def PaysR (w : World) (x : Chs) (O : Option Addr) (cap : Nat) (C : Mp.Channel) (now : Int) (v : Value) (wr : World) : Prop :=
  ∃ C' os Ao co cs O' cap', v = .slice Ao (List.length os) co ∧ OwnS wr 38 6 Ao (List.length os) co cs ∧ GramsAt wr os cs ∧ (∀ k, k ∈ fp Ao co → w.heap.size ≤ k) ∧ IsC wr x O' cap' C' ∧ (∀ k, k ∈ fp O' cap' → k ∈ fp O cap) ∧
    Upd [x.ch, x.sn, x.tm, x.sm] w wr ∧ Keep 5 w wr ∧ MayC C' ∧ C'.s.over = false ∧ os.length + C'.owed.length ≤ C.owed.length ∧
    Mp.Channel.paysK C.owed.length C now = (os ++ (Mp.Channel.paysK C'.owed.length C' now).1, (Mp.Channel.paysK C'.owed.length C' now).2)

theorem paysK_end {C : Mp.Channel} {now : Int} (h : C.owed = [] ∨ C.s.room ≤ 0) : ∀ k, Mp.Channel.paysK k C now = ([], C)
  | 0 => rfl
  | k + 1 => by
    unfold Mp.Channel.paysK
    rcases h with h | h
    · rw [h]
    · cases hc : C.owed with
      | nil => rfl
      | cons b l => simp only; rw [if_pos h]
theorem paysK_send {C : Mp.Channel} {now : Int} {b : Mp.Bytes} {rest : List Mp.Bytes} (h : C.owed = b :: rest) (hr : 0 < C.s.room) (k : Nat) :
    Mp.Channel.paysK (k + 1) C now = ((({ C with s := C.s.send now b, owed := rest } : Mp.Channel).data C.s.next) :: (Mp.Channel.paysK k { C with s := C.s.send now b, owed := rest } now).1, (Mp.Channel.paysK k { C with s := C.s.send now b, owed := rest } now).2) := by
  rw [Mp.Channel.paysK, h]
  simp only
  rw [if_neg (by omega)]

set_option maxRecDepth 100000 in
set_option maxHeartbeats 1000000 in
theorem chanPays {w : World} {x : Chs} {O : Option Addr} {cap : Nat} {C : Mp.Channel} (h : IsC w x O cap C) (hm : MayC C) (ho : C.s.over = false) (hl : C.owed.length ≤ 1000) (now : Int) (h0 : 0 ≤ now) (hn : now ≤ 1099511627776) :
    Calls Try.prog 64 #[.pointer (some ⟨x.ch, 0, none⟩), .int .i64 now] w fun e w' => ∃ A c cs O' cap', e = .returned (.slice A (C.pays now).1.length c) ∧ OwnS w' 38 6 A (C.pays now).1.length c cs ∧ GramsAt w' (C.pays now).1 cs ∧
      (∀ k, k ∈ fp A c → w.heap.size ≤ k) ∧ IsC w' x O' cap' (C.pays now).2 ∧ (∀ k, k ∈ fp O' cap' → k ∈ fp O cap) ∧ Upd [x.ch, x.sn, x.tm, x.sm] w w' ∧ Keep 5 w w' ∧ MayC (C.pays now).2 := by
  obtain ⟨i0, hi, hz0, hz1, hz2⟩ := info_parts ginfo
  go_enter Try.func64, Try.ntmps64
  go_wp2
  go_loopw [4] (fun v wr => PaysR w x O cap C now v wr) (fun _ wr => owedLen wr x.ch)
  case atStart => exact ⟨C, [], none, 0, [], O, cap, rfl, OwnS.nil _ _ _ _, rfl, by simp [fp], h, fun _ hk => hk, Upd.refl _ _, Keep.refl _ _, hm, ho, by simp, rfl⟩
  case round =>
    obtain ⟨C', os, Ao, co, cs, O', cap', rfl, q1, q2, q3, q4, q5, q6, q7, q8, q9, q10, q11⟩ := hrel
    have HQ := Lib.hid q11
    clear q11
    have hbk := q4.blk
    rcases hC : C'.owed with _ | ⟨b, rest⟩
    · rw [hC] at hbk
      have c3 : wr.cell? ⟨x.ch, 3, none⟩ = some (.slice O' 0 cap') := hbk.cell 3
      have HP : Hid (C.pays now = (os, C')) := by
        refine Lib.hid ?_
        rw [Mp.Channel.pays, HQ.out, paysK_end (.inl hC)]; simp
      clear hC
      go_wp2
      go_ret
      rw [HP.out]
      exact ⟨Ao, co, cs, O', cap', rfl, q1, q2, q3, q4, q5, q6, q7, q8⟩
    · rw [hC] at hbk
      have c3 : ∀ n, (wr.drewN n).cell? ⟨x.ch, 3, none⟩ = some (.slice O' (rest.length + 1) cap') := fun n => hbk.cell 3
      have c0 : ∀ n, (wr.drewN n).cell? ⟨x.ch, 0, none⟩ = some (.pointer (some ⟨x.sn, 0, none⟩)) := fun n => hbk.cell 0
      have c3' : wr.cell? ⟨x.ch, 3, none⟩ = some (.slice O' (rest.length + 1) cap') := hbk.cell 3
      have c0' : wr.cell? ⟨x.ch, 0, none⟩ = some (.pointer (some ⟨x.sn, 0, none⟩)) := hbk.cell 0
      obtain ⟨es, m1, m2⟩ := q4.snd.map
      have hsb := q4.snd.blk
      rw [q9] at hsb
      have hsl := q8.snd.len
      have hel := m2.length
      have HRm := senderRoom hsb m1 q8.snd.w1 q8.snd.w2 (by omega)
      have hrm : (if false = true then 0 else C'.s.window - (es.length : Int)) = C'.s.room := by unfold Mp.Sender.room; rw [q9, hel]
      rw [hrm] at HRm
      have HRm := Lib.hid HRm
      clear hrm hel
      by_cases hroom : 0 < C'.s.room
      · go_wp2_with (go_at_call 77; (with_reducible refine HRm.out.mono ?_); rintro e w1 ⟨rfl, nn, rfl⟩)
        obtain ⟨vs, o1, o2⟩ := q4.owd
        rw [hC] at o1 o2
        obtain ⟨v, vs', rfl, hv, hvs⟩ : ∃ v vs', vs = v :: vs' ∧ IsB wr v b ∧ IsBs wr vs' rest := by
          cases vs with
          | nil => exact absurd o2 (by simp [IsBs])
          | cons v vs' => exact ⟨v, vs', rfl, o2.1, o2.2⟩
        obtain ⟨hbl, Ab, cb, rfl, hcb, hsb2⟩ := hv
        obtain ⟨bo, oo, hO, hce⟩ := o1.seg.cell (j := 0) (by simp)
        simp at hce
        have ce : ∀ n, (wr.drewN n).cell? ⟨bo, oo, none⟩ = some (.slice Ab b.length cb) := fun n => hce
        have u0 : Upd [] wr (wr.drewN (nn + 1)) := (Upd.refl [] wr).drewN (nn + 1)
        have k0 : Keep 5 wr (wr.drewN (nn + 1)) := (Keep.refl _ wr).drewN (nn + 1)
        have s1 := q4.snd.upd u0 k0 (by simp) (by simp) (by simp) (by simp)
        have HSn := Lib.hid (senderSend s1 q8.snd now h0 hn Ab b cb (hsb2.keep k0) hbl q9 hroom)
        rw [hO] at c3 c3'
        clear c3 c0
        go_region_with (go_at_call 78; (with_reducible refine HSn.out.mono ?_); rintro e w2 ⟨rfl, s2, u2, k2⟩)
        all_goals
          have hchs : x.ch ≠ x.sn := hbk.ne_ hsb (by decide)
          have hcht : x.ch ≠ x.tm := Ne.symm (q4.snd.tim.map.ne_blk hbk)
          have hchm : x.ch ≠ x.sm := Ne.symm (m1.ne_blk hbk)
          have hF : x.ch ∉ [x.sn, x.tm, x.sm] := by simp; exact ⟨hchs, hcht, hchm⟩
          have i1 := q4.upd u0 k0 (by simp) (by simp) (by simp) (by simp) (by simp) (by simp) (by simp) (by simp)
          have b2 := u2.blk i1.blk hF
          have z0 : OwnS w2 36 1 O' (rest.length + 1) cap' (.slice Ab b.length cb :: vs') := (o1.upd u0 (by simp)).keep (Keep.of_upd u2 (by
            intro k hk
            simp at hk
            rcases hk with rfl | rfl | rfl
            · exact blk_not i1.snd.blk (by decide)
            · exact i1.snd.tim.map.not _
            · obtain ⟨_, mm, _⟩ := i1.snd.map; exact mm.not _))
          rw [hC, hO] at b2
          rw [hO] at z0
          have e3 : w2.cell? ⟨x.ch, 3, none⟩ = some (.slice (some ⟨bo, oo, none⟩) (rest.length + 1) cap') := b2.cell 3
          have ef : w2.frozen? ⟨x.ch, 3, none⟩ = false := b2.frozen 3
          obtain ⟨t1, t2⟩ := z0.tail
          obtain ⟨A2, hA2⟩ : ∃ A2, A2 = (if cap' = 1 then some (⟨bo, oo, none⟩ : Addr) else (some (⟨bo, oo, none⟩ : Addr)).map (·.add (1 * 1))) := ⟨_, rfl⟩
          have hcut : ∀ W, (Instr.slice 32 (.slice (some ⟨bo, oo, none⟩) (rest.length + 1) cap') (some (.int .i64 1)) none none).run Try.prog W = .ok (.slice A2 rest.length (cap' - 1)) W := by
            intro W
            rw [hA2]
            exact run_cutFrom Try.underlying32 Try.sizeOf36 (some ⟨bo, oo, none⟩) (rest.length + 1) cap' 1 (by omega) W
          rw [← hA2] at t1 t2
          clear hA2
          go_wp2_with fail
          have b3 := b2.setTo 3 (.slice A2 rest.length (cap' - 1)) #[.pointer (some ⟨x.sn, 0, none⟩), .int .i64 C'.conn, .pointer (some ⟨x.tk, 0, none⟩), .slice A2 rest.length (cap' - 1)] (by simp)
          have u3 : Upd [x.ch] w2 (w2.setCell ⟨x.ch, 3, none⟩ (.slice A2 rest.length (cap' - 1))) := (Upd.refl [x.ch] w2).setCell (.inl (by simp)) _
          have k3 : ∀ T, 105 ≠ T → Keep T w2 (w2.setCell ⟨x.ch, 3, none⟩ (.slice A2 rest.length (cap' - 1))) := fun T hT => (Keep.refl T w2).setCell b2 hT 3 _
          generalize (w2.setCell ⟨x.ch, 3, none⟩ (.slice A2 rest.length (cap' - 1))) = w3 at b3 u3 k3 ⊢
          have ic2 : IsC w3 x A2 (cap' - 1) { C' with s := C'.s.send now b, owed := rest } := by
            obtain ⟨ek, n1, n2⟩ := i1.tmap
            have hkF : x.km ∉ [x.sn, x.tm, x.sm] := by
              have := i1.n1; have := i1.n2; have := n1.ne_blk i1.snd.blk; simp; omega
            have htF : x.tk ∉ [x.sn, x.tm, x.sm] := by
              have a1 := i1.tak.ne_ i1.snd.blk (by decide)
              have a2 := i1.snd.tim.map.ne_blk i1.tak
              obtain ⟨_, mm, _⟩ := i1.snd.map
              have a3 := mm.ne_blk i1.tak
              simp; omega
            have htc : x.tk ≠ x.ch := i1.tak.ne_ i1.blk (by decide)
            have hkc : x.km ≠ x.ch := n1.ne_blk i1.blk
            have hic : x.ti ≠ x.ch := i1.snd.tim.blk.ne_ i1.blk (by decide)
            refine ⟨b3, s2.upd u3 (k3 _ (by decide)) (by simpa using Ne.symm hchs) (by simpa using hic) (by simpa using Ne.symm hcht) (by simpa using Ne.symm hchm), u3.blk (u2.blk i1.tak htF) (by simpa using htc), ⟨ek, (n1.upd u2 hkF).upd u3 (by simpa using hkc), (n2.keep k2).keep (k3 _ (by decide))⟩, i1.n1, i1.n2, ⟨vs', t1.keep (k3 _ (by decide)), ((hvs.keep k0).keep k2).keep (k3 _ (by decide))⟩⟩
          have hzz : OwnS w3 38 6 Ao os.length co cs := ((q1.upd u0 (by simp)).keep (Keep.of_upd u2 (by
            intro k hk
            simp at hk
            rcases hk with rfl | rfl | rfl
            · exact blk_not i1.snd.blk (by decide)
            · exact i1.snd.tim.map.not _
            · obtain ⟨_, mm, _⟩ := i1.snd.map; exact mm.not _))).keep (k3 _ (by decide))
          have hgg := ((q2.keep k0).keep k2).keep (k3 5 (by decide))
          have U3 : Upd [x.ch, x.sn, x.tm, x.sm] w w3 := ((q6.trans u0 (by simp)).trans u2 (by simp)).trans u3 (by simp)
          have K3 : Keep 5 w w3 := ((q7.trans k0).trans k2).trans (k3 _ (by decide))
          obtain ⟨C2, hC2⟩ : ∃ C2 : Mp.Channel, C2 = { C' with s := C'.s.send now b, owed := rest } := ⟨_, rfl⟩
          rw [← hC2] at ic2
          have HC2 := Lib.hid hC2
          have hol : C2.owed.length = rest.length := by rw [hC2]
          have m2' : MayC C2 := by
            have hx := q8.nx
            rw [hC] at hx
            simp only [List.length_cons] at hx
            have h2 := q8.snd.send (by omega) q9 hroom now b
            rw [hC2]
            refine ⟨h2, ?_⟩
            simp only [Mp.Sender.send]
            omega
          have ho2 : C2.s.over = false := by rw [hC2]; exact q9
          have HQ2 : Hid (Mp.Channel.paysK C.owed.length C now = ((os ++ [C2.data C'.s.next]) ++ (Mp.Channel.paysK C2.owed.length C2 now).1, (Mp.Channel.paysK C2.owed.length C2 now).2)) := by
            refine Lib.hid ?_
            rw [HQ.out, hC, List.length_cons, paysK_send hC hroom, ← hC2, hol]
            simp
          have z3 := u3.size
          have zw3 := U3.size
          clear hC2 b2 b3 HSn s2 HRm e3 ef hcut t1 i1 q4 hsb m1 m2
          (with_reducible refine (chanData ic2 C'.s.next).mono ?_)
          rintro e w4 ⟨A5, c5, rfl, g5, b5⟩
          have U4 := U3.below b5
          generalize hsq : C'.s.next = sq at HQ2 g5 ⊢
          have hAl := (Below.refl w4.heap.size w4).alloc (Nat.le_refl _) (.cells #[.int .i64 C2.conn, .int .i64 1, .int .i64 sq, .int .i64 C2.t.next, .int .i64 0, .slice A5 (C2.s.body sq).length c5] 38)
          have HOw := Lib.hid ((hzz.below b5).below hAl)
          have HSg := Lib.hid (Seg.newAt w4 38 [.int .i64 C2.conn, .int .i64 1, .int .i64 sq, .int .i64 C2.t.next, .int .i64 0, .slice A5 (C2.s.body sq).length c5] w4.heap.size rfl)
          have H63 := Lib.hid (show os.length + 1 ≤ maxLen from le_maxLen (by omega))
          have H48 := Lib.hid (show (os.length + 1) * 64 ≤ 140737488355328 by omega)
          have hgg5 := (hgg.keep (Keep.of_below b5)).keep (Keep.of_below hAl)
          have g5' := g5.keep (Keep.of_below hAl)
          have ic4 := (ic2.below b5).below hAl
          have U5 := (U3.below b5).below hAl
          have K5 := (K3.trans (Keep.of_below b5)).trans (Keep.of_below hAl)
          have hol3 : owedLen wr x.ch = rest.length + 1 := by unfold owedLen; rw [c3']
          clear hAl hgg g5 ic2 U3 K3 U4 hzz
          go_wp2_with (at_builtin; refine wpList_append_s _ rfl _ _ _ rfl 38 38 i0 (.agg #[.int .i64 0, .int .i64 0, .int .i64 0, .int .i64 0, .int .i64 0, .slice none 0 0]) 6 64 Try.underlying85 hi hz0 hz1 hz2 rfl Ao os.length co cs rfl HOw.out (some ⟨w4.heap.size, 0, none⟩) 1 1 [.int .i64 C2.conn, .int .i64 1, .int .i64 sq, .int .i64 C2.t.next, .int .i64 0, .slice A5 (C2.s.body sq).length c5] rfl rfl HSg.out (by simp [Value.oneCell']) H63.out H48.out ?_; intro A' cap2 w5 hown hup hfp)
          have hzw4 : w.heap.size ≤ w4.heap.size := U5.size |> fun h => by have := b5.size; omega
          have hnf : ∀ k, k < w.heap.size → k ∉ fp Ao co := fun k hk hm => by have := q3 k hm; omega
          have k5 : Keep 5 _ w5 := HOw.out.keep_ne hup (by decide)
          have hic : IsC w5 x A2 (cap' - 1) C2 := by
            obtain ⟨_, smm, _⟩ := h.snd.map
            obtain ⟨_, kmm, _⟩ := h.tmap
            obtain ⟨_, oww, _⟩ := h.owd
            exact ic4.upd hup k5 (hnf _ h.blk.lt) (hnf _ h.snd.blk.lt) (hnf _ h.snd.tim.blk.lt) (hnf _ h.snd.tim.map.lt) (hnf _ smm.lt) (hnf _ h.tak.lt) (hnf _ kmm.lt) (fun k hk => hnf _ (oww.fp_lt k (q5 k (by have := t2 k hk; rw [hO]; exact this))))
          have hn5 : owedLen w5 x.ch = rest.length := by
            unfold owedLen
            have : w5.cell? ⟨x.ch, 3, none⟩ = some (.slice A2 C2.owed.length (cap' - 1)) := hic.blk.cell 3
            rw [this, hol]
          refine ⟨⟨C2, os ++ [C2.data sq], A', cap2, _, A2, cap' - 1, by simp, by rw [List.length_append]; exact hown, (hgg5.keep k5).snoc (g := C2.data sq) (g5'.keep k5), ?_, hic, fun k hk => q5 k (by have := t2 k hk; rw [hO]; exact this), ?_, K5.trans k5, m2', ho2, ?_, HQ2.out⟩, ?_⟩
          · intro k hk
            rcases hfp k hk with h1 | h1
            · exact q3 k h1
            · simp at h1; omega
          · exact U5.trans hup (fun k hk => .inr (q3 k hk))
          · rw [hC] at q10
            simp at q10 ⊢
            omega
          · rw [hn5, hol3]; omega
      · have HP : Hid (C.pays now = (os, C')) := by
          refine Lib.hid ?_
          rw [Mp.Channel.pays, HQ.out, paysK_end (.inr (by omega))]; simp
        clear hC
        go_wp2_with (go_at_call 77; (with_reducible refine HRm.out.mono ?_); rintro e w1 ⟨rfl, nn, rfl⟩)
        go_ret
        rw [HP.out]
        have u0 : Upd [] wr (wr.drewN nn) := (Upd.refl [] wr).drewN nn
        have k0 : Keep 5 wr (wr.drewN nn) := (Keep.refl _ wr).drewN nn
        exact ⟨Ao, co, cs, O', cap', rfl, q1.upd u0 (by simp), q2.keep k0, q3, q4.upd u0 k0 (by simp) (by simp) (by simp) (by simp) (by simp) (by simp) (by simp) (by simp), q5, q6.trans u0 (by simp), q7.trans k0, q8⟩
end Go.Proofs.Ytemcpldipjbleaa
